/- RingLeave: when a node leaves, what was not its stays where it was. Conditions: what comes in lies in its cells. -/
import Derived.Test.YtmbpgenjjgepiaaRgOwn2
import Derived.Test.YtmbpgenjjgepiaaRgLeave
import Derived.Test.YtmbpgenjjgepiaaGood
import Derived.Test.YtmbpgenjjgepiaaOpenN
namespace Go.Proofs.Ytmbpgenjjgepiaa
open Go.RowKit Go.Sort

theorem erase_key {l : List Nod} {name : ByteArray} : ∀ {i : Nat}, (l.map (·.nm)).Pairwise nlt → (h : i < l.length) → (l[i]).nm = name → l.eraseIdx i = l.filter fun y => decide (y.nm ≠ name) := by
  induction l with
  | nil => intro i _ h; exact absurd h (Nat.not_lt_zero _)
  | cons y l ih =>
    intro i hp h hx
    rw [List.map_cons, List.pairwise_cons] at hp
    cases i with
    | zero =>
      have hx : y.nm = name := hx
      rw [List.eraseIdx_cons_zero, List.filter_cons_of_neg (by simp [hx])]
      refine (List.filter_eq_self.2 (fun z hz => ?_)).symm
      have h1 := hp.1 z.nm (List.mem_map.2 ⟨z, hz, rfl⟩)
      rw [hx] at h1
      simp only [decide_eq_true_eq]
      intro e
      rw [e] at h1
      exact nlt_irrefl _ h1
    | succ i =>
      have hx : (l[i]'(Nat.lt_of_succ_lt_succ h)).nm = name := hx
      have h1 := hp.1 (l[i]'(Nat.lt_of_succ_lt_succ h)).nm (List.mem_map.2 ⟨_, List.getElem_mem _, rfl⟩)
      have hy : y.nm ≠ name := by
        intro e
        rw [e, hx] at h1
        exact nlt_irrefl _ h1
      rw [List.eraseIdx_cons_succ, List.filter_cons_of_pos (by simp [hy]), ih hp.2 _ hx]
theorem rgOk_erase {l : List Nod} {i : Nat} (h : RgOk l) : RgOk (l.eraseIdx i) := by
  obtain ⟨h1, h2, h3⟩ := h
  have hs := List.eraseIdx_sublist l i
  exact ⟨Nat.le_trans hs.length_le h1, fun x hx => h2 x (hs.subset hx), h3.sublist (hs.map _)⟩
/-- what Owners tells of one: plainly, where the nodes are in order -/
theorem ownersQ_ok {l : List Nod} {a : Nat} {m : Int} {w w' : World} {v : Value} (h : OwnersQ l a m w v w') (hok : RgOk l) (hm : 0 ≤ m) :
    ∃ A' n' c', v = .tuple #[.slice A' n' c', .int .i64 0] ∧ n' = ((ownAll l a).take m.toNat).length ∧ w'.ownsRow w.heap.size 9 1 (.slice A' n' c') n' (strCs ((ownAll l a).take m.toNat)) ∧ Below w.heap.size w w' := by
  obtain ⟨A', n', c', o, e, rfl, h1, h2, h3, h4⟩ := h
  rcases h4 with ⟨h4, _⟩ | ⟨_, h4, _⟩ | ⟨_, _, rfl, rfl⟩
  · exact absurd (chkR_iff.2 hok) h4
  · omega
  · exact ⟨A', n', c', rfl, h1, h2, h3⟩
set_option maxRecDepth 1000000 in
set_option maxHeartbeats 4000000 in
theorem ringLeave_any (w : World) (A : Option Addr) (c : Nat) (L : List NodE) (hL : ∀ e ∈ L, NodOk w e) (hnc : L.length ≤ c) (hc : c ≤ maxLen) (hA : A = none → c = 0) (h : Has w w.heap.size A (nodCs L)) (_hr : L.length * 40 ≤ 140737488351232)
    (name : ByteArray) (_hz : name.size ≤ maxLen) (a : Nat) (_ha : a < 18446744073709551616) :
    Calls Try.prog 5 #[.slice A L.length c, .string name, .int .u64 (a : Nat)] w (R1 (.bool true) (Below w.heap.size w)) := by
  obtain ⟨n, hn⟩ : ∃ n, L.length = n := ⟨_, rfl⟩
  have hl : n ≤ maxLen := by omega
  rw [hn] at hnc ⊢
  have Hh := Lib.hid h; clear h
  have HL := Lib.hid hL; clear hL
  have HR := Lib.hid (rings_any w)
  have HO := Lib.hid (fun (w' : World) (hb : Below w.heap.size w w') => ownersQ_any A n c L hn hl a 1 w' (Hh.out.next hb) (fun e he => (HL.out e he).next hb))
  have HV := Lib.hid (fun (w' : World) (hb : Below w.heap.size w w') => leave_any A n c L hn hA hnc hl name w' (Hh.out.next hb) (fun e he => (HL.out e he).next hb))
  have HN := Lib.hid (fun (w' : World) => ownersQ_any none 0 0 [] rfl (by decide) a 1 w' (Has.nil _ _ _) (fun e he => by cases he))
  have Hn := Lib.hid hn
  clear hn hA
  go_enter Try.func5, Try.ntmps5
  go_wp2_with fail
  refine HR.out.mono ?_
  rintro e w1 ⟨rfl, hb1⟩
  have HV1 := Lib.hid (HV.out w1 hb1)
  go_wp2_with fail
  refine HV1.out.mono ?_
  rintro e w2 ⟨v, rfl, hcase, hb2⟩
  have hb02 := bnext hb1 hb2
  have HO1 := Lib.hid (HO.out w2 hb02)
  clear hb1
  rcases hcase with ⟨e, he0, he64, rfl, _⟩ | ⟨i, A2, c2, L2, hok, hi, hnm, _, rfl, hL2, hown2, htk⟩
  · have hb : (e != 0) = true := bne_iff_ne.2 he0
    clear hb2 he0
    go_wp2_with fail
    refine HO1.out.mono ?_
    rintro e3 w3 ⟨v, rfl, A3, n3, c3, o3, e3, rfl, hn3, hown3, hb3, _⟩
    have hb03 := bnext hb02 hb3
    clear hown3 hn3 hb3
    go_wp2_with fail
    refine (HN.out w3).mono ?_
    rintro e4 w4 ⟨v, rfl, A4, n4, c4, o4, e4, rfl, hn4, hown4, hb4, _⟩
    have hb04 := bnext hb03 hb4
    clear hown4 hn4 hb4
    go_wp2_with fail
    go_ret
    exact R1.mk rfl hb04
  · rw [Hn.out] at hown2 ⊢
    obtain ⟨q1, q2⟩ := own_len hown2
    obtain ⟨m, hm⟩ : ∃ m, n - 1 = m := ⟨_, rfl⟩
    rw [hm] at hown2 q1 ⊢
    have hlen2 : L2.length = m := by
      have := congrArg List.length hL2
      rw [List.length_map, List.length_eraseIdx, List.length_map, if_pos hi, Hn.out, hm] at this
      exact this
    have hat : ((L.map NodE.x)[i]'(by rw [List.length_map]; exact hi)).nm = name := by
      rw [List.getElem_map]
      rw [at_eq hi] at hnm
      exact hnm
    have hfil : L2.map NodE.x = (L.map NodE.x).filter fun y => decide (y.nm ≠ name) := by rw [hL2]; exact erase_key hok.2.2 _ hat
    have hU : ownAll (L2.map NodE.x) a = (ownAll (L.map NodE.x) a).filter fun y => decide (y ≠ name) := by
      unfold ownAll
      rw [hfil, plAll_erase (x := name) (fun _ => rfl)]
      exact ownU_filter _ _ _
    have hok2 : RgOk (L2.map NodE.x) := by rw [hL2]; exact rgOk_erase hok
    have HO2 := Lib.hid (fun (w' : World) (hb : Below w2.heap.size w2 w') => ownersQ_any A2 m c2 L2 hlen2 (by omega) a 1 w' ((Has.of_own hown2).next hb) (fun e he => (htk e he).ok.next hb))
    have Hok := Lib.hid hok
    have Hok2 := Lib.hid hok2
    have HU := Lib.hid hU
    clear hU hok2 hok hfil hat hlen2 hown2 htk hL2 hnm hi hb2 hm
    obtain ⟨U, hUe⟩ : ∃ U, ownAll (L.map NodE.x) a = U := ⟨_, rfl⟩
    have hu2 := HU.out
    rw [hUe] at hu2
    go_wp2_with fail
    refine HO1.out.mono ?_
    rintro e3 w3 ⟨v, rfl, hq⟩
    obtain ⟨A3, n3, c3, rfl, hn3, hown3, hb3⟩ := ownersQ_ok hq Hok.out (by decide)
    rw [hUe] at hn3 hown3
    have hb03 := bnext hb02 hb3
    have HO2' := Lib.hid (HO2.out w3 hb3)
    clear hq
    go_wp2_with fail
    refine HO2'.out.mono ?_
    rintro e4 w4 ⟨v, rfl, hq⟩
    obtain ⟨A4, n4, c4, rfl, hn4, hown4, hb4⟩ := ownersQ_ok hq Hok2.out (by decide)
    rw [hu2] at hn4 hown4
    have hb04 := bnext hb03 hb4
    have hR3 := (Has.of_own hown3).next hb4
    have hR4 := Has.of_own hown4
    obtain ⟨q3, q4⟩ := own_len hown3
    obtain ⟨q5, q6⟩ := own_len hown4
    clear hq hown3 hown4 HU HO HO2 HV HN hb3 hb4 hu2 hUe
    have hgood := Lib.hid (fun (w : World) => good_any _ 2 2 [0, 0] rfl (by decide) _ (Has.fresh w #[.int .i64 0, .int .i64 0] 26))
    cases U with
    | nil =>
      have e3 : n3 = 0 := hn3
      have e4 : n4 = 0 := hn4
      subst e3 e4
      clear hn3 hn4
      have HE := Lib.hid (fun (w' : World) => equalS_any A3 A4 0 0 c3 c4 [] [] rfl rfl (by decide) (by decide) w' (Has.nil _ _ _) (Has.nil _ _ _))
      go_wp2_with fail
      refine (hgood.out w4).mono ?_
      rintro e5 w5 ⟨rfl, hd5⟩
      have hb05 := bnext hb04 (bnext (one_alloc w4 _) (drawn_below hd5))
      clear hd5
      go_wp2_with fail
      refine (HE.out w5).mono ?_
      rintro e6 w6 ⟨rfl, hd6⟩
      have hb06 := bnext hb05 (drawn_below hd6)
      clear hd6
      go_wp2_with fail
      go_ret
      exact R1.mk rfl hb06
    | cons x U =>
      have e3 : n3 = 1 := hn3
      subst e3
      obtain ⟨ad, rfl, _, c0⟩ := hR3.at (show (strCs ((x :: U).take (1 : Int).toNat))[0]? = some (.string x) from rfl)
      rw [show ad.add 0 = ad from by simp [Addr.add]] at c0
      have C0 := Lib.hid (fun (w' : World) (hb : Below w4.heap.size w4 w') => (hb.cell (World.block_lt_of_cell? w4 ad c0)).trans c0)
      clear c0
      have hd1 : decide ((1 : Int) > 0) = true := rfl
      have h1c : (1 : Int) ≤ (c3 : Int) := by omega
      by_cases e : x = name
      · subst e
        have f1 : (x.toList == x.toList) = true := by rw [beq_iff_eq]
        clear hn3 hn4
        go_wp2_with fail
        refine (hgood.out w4).mono ?_
        rintro e5 w5 ⟨rfl, hd5⟩
        have hb5 := bnext (one_alloc w4 _) (drawn_below hd5)
        have c0 := C0.out w5 hb5
        have hb05 := bnext hb04 hb5
        clear hd5 hb5
        go_wp2_with fail
        go_ret
        exact R1.mk rfl hb05
      · have f1 : (x.toList == name.toList) = false := by rw [nameS_eq, decide_eq_false e]
        have hf : (x :: U).filter (fun y => decide (y ≠ name)) = x :: U.filter (fun y => decide (y ≠ name)) := List.filter_cons_of_pos (by simp [e])
        rw [hf] at hn4 hR4
        have e4 : n4 = 1 := hn4
        subst e4
        have HE := Lib.hid (fun (w' : World) (hb : Below w4.heap.size w4 w') => equalS_any (some ad) A4 1 1 c3 c4 [x] [x] rfl rfl (by decide) (by decide) w' (hR3.next hb) (hR4.next hb))
        rw [decide_eq_true rfl] at HE
        clear hn3 hn4 hf hR3 hR4 e
        go_wp2_with fail
        refine (hgood.out w4).mono ?_
        rintro e5 w5 ⟨rfl, hd5⟩
        have hb5 := bnext (one_alloc w4 _) (drawn_below hd5)
        have c0 := C0.out w5 hb5
        have hb05 := bnext hb04 hb5
        have HE5 := Lib.hid (HE.out w5 hb5)
        clear hd5 hb5
        go_wp2_with ((refine HE5.out.mono ?_; rintro e6 w6 ⟨rfl, hd6⟩))
        have hb06 := bnext hb05 (drawn_below hd6)
        clear hd6
        go_wp2_with fail
        go_ret
        exact R1.mk rfl hb06
end Go.Proofs.Ytmbpgenjjgepiaa
