/- RingMore: who asks for more owners is told the same ones first. Conditions: what comes in lies in its cells. -/
import Derived.Test.YtmbpgenjjgepiaaRgOwn2
import Derived.Test.YtmbpgenjjgepiaaRgHas
import Derived.Test.YtmbpgenjjgepiaaOpenN
import Derived.StillTailTactics
namespace Go.Proofs.Ytmbpgenjjgepiaa
open Go.RowKit Go.Sort

theorem take_strCs (l : List ByteArray) (k : Nat) : (strCs l).take k = strCs (l.take k) := by
  induction l generalizing k with
  | nil => simp [strCs]
  | cons x l ih =>
    cases k with
    | zero => simp [strCs]
    | succ k =>
      rw [List.take_succ_cons, show strCs (x :: l) = .string x :: strCs l from rfl, show strCs (x :: l.take k) = .string x :: strCs (l.take k) from rfl, ← ih, List.take_succ_cons]
set_option maxRecDepth 1000000 in
set_option maxHeartbeats 4000000 in
theorem ringMore_any (w : World) (A : Option Addr) (c : Nat) (L : List NodE) (hL : ∀ e ∈ L, NodOk w e) (hnc : L.length ≤ c) (hc : c ≤ maxLen) (hA : A = none → c = 0) (h : Has w w.heap.size A (nodCs L)) (hr : L.length * 40 ≤ 140737488351232)
    (a : Nat) (ha : a < 18446744073709551616) (m : Int) (bm : -9223372036854775808 ≤ m ∧ m ≤ 9223372036854775807) (k : Int) (bk : -9223372036854775808 ≤ k ∧ k ≤ 9223372036854775807) :
    Calls Try.prog 3 #[.slice A L.length c, .int .u64 (a : Nat), .int .i64 m, .int .i64 k] w (R1 (.bool true) (Below w.heap.size w)) := by
  obtain ⟨n, hn⟩ : ∃ n, L.length = n := ⟨_, rfl⟩
  have hl : n ≤ maxLen := by omega
  rw [hn] at hnc ⊢
  have Hh := Lib.hid h; clear h
  have HL := Lib.hid hL; clear hL
  have HR := Lib.hid (rings_any w)
  have HO := Lib.hid (fun (w' : World) (hb : Below w.heap.size w w') (m : Int) => ownersQ_any A n c L hn hl a m w' (Hh.out.next hb) (fun e he => (HL.out e he).next hb))
  have Hn := Lib.hid hn
  clear hn ha
  obtain ⟨E, hE⟩ : ∃ E, chkR (L.map NodE.x) = E := ⟨_, rfl⟩
  obtain ⟨U, hU⟩ : ∃ U, ownAll (L.map NodE.x) a = U := ⟨_, rfl⟩
  have hUn : U.Nodup := by rw [← hU]; exact uq_nodup _
  have hUm : ∀ o ∈ U, ∃ e ∈ L, hasTk e o = true := fun o ho => by
    rw [← hU] at ho
    obtain ⟨x, hx, h1, h2⟩ := ownU_mem ho
    obtain ⟨e, he, rfl⟩ := List.mem_map.1 hx
    refine ⟨e, he, ?_⟩
    unfold hasTk
    rw [decide_eq_true (show e.nm = o from h1), decide_eq_true (show 0 < e.t.l.length from h2)]; rfl
  have HUn := Lib.hid hUn
  have HUm := Lib.hid hUm
  have HE := Lib.hid hE
  have HU := Lib.hid hU
  clear hUn hUm hE hU
  go_enter Try.func3, Try.ntmps3
  go_wp2_with fail
  refine HR.out.mono ?_
  rintro e w1 ⟨rfl, hb1⟩
  have hO1 := HO.out w1 hb1 m
  have HO1 := Lib.hid hO1
  clear hO1
  go_wp2_with fail
  refine HO1.out.mono ?_
  rintro e w2 ⟨v, rfl, A1, n1, c1, o1, e1, rfl, hn1, hown1, hb2, hcase⟩
  have hb02 := bnext hb1 hb2
  have Hown1 := Lib.hid hown1
  have Hn1 := Lib.hid hn1
  clear hown1 hn1
  rw [HE.out, HU.out] at hcase
  by_cases h0 : e1 = 0
  · subst h0
    have h3 : E = 0 ∧ 0 ≤ m ∧ o1 = U.take m.toNat := by
      rcases hcase with ⟨h1, h2, _⟩ | ⟨_, _, h2, _⟩ | ⟨h1, h2, _, h3⟩
      · exact absurd h2.symm h1
      · exact absurd h2 (by decide)
      · exact ⟨h1, h2, h3⟩
    obtain ⟨hE0, hm0, ho1⟩ := h3
    clear hcase
    by_cases hkm : k < m
    · go_wp2_with fail
      go_ret
      exact R1.mk rfl hb02
    · have HO2 := Lib.hid (HO.out w2 hb02 k)
      have Ho1 := Lib.hid ho1
      have HE0 := Lib.hid hE0
      clear ho1 hE0
      go_wp2_with fail
      refine HO2.out.mono ?_
      rintro e w3 ⟨v, rfl, A2, n2, c2, o2, e2, rfl, hn2, hown2, hb3, hcase⟩
      rw [HE.out, HU.out] at hcase
      have h3 : e2 = 0 ∧ o2 = U.take k.toNat := by
        rcases hcase with ⟨h1, h2, _⟩ | ⟨_, h1, h2, _⟩ | ⟨h1, h2, h4, h3⟩
        · exact absurd HE0.out h1
        · omega
        · exact ⟨h4, h3⟩
      obtain ⟨rfl, ho2⟩ := h3
      clear hcase
      have hb03 := bnext hb02 hb3
      have hlen : n1 ≤ n2 ∧ (n2 : Int) ≤ k := by
        rw [Hn1.out, hn2, Ho1.out, ho2, List.length_take, List.length_take]; omega
      obtain ⟨hl12, hl2k⟩ := hlen
      obtain ⟨q1, q2⟩ := own_len hown2
      obtain ⟨q3, q4⟩ := own_len Hown1.out
      have hn2l : n2 ≤ maxLen := by omega
      have hpre : o2.take n1 = o1 := by
        rw [Hn1.out, Ho1.out, ho2, List.take_take, List.length_take]
        have h5 : U.take (min (min m.toNat U.length) k.toNat) = U.take (min m.toNat U.length) := by congr 1; omega
        rw [h5]
        rcases Nat.le_total m.toNat U.length with g | g
        · rw [Nat.min_eq_left g]
        · rw [Nat.min_eq_right g, List.take_of_length_le g, List.take_length]
      have HEq := Lib.hid (equalS_any A1 A2 n1 n1 c1 c2 o1 (o2.take n1) Hn1.out.symm (by rw [List.length_take]; omega) (by omega) (by omega) w3 ((Has.of_own Hown1.out).next hb3) (by rw [← take_strCs]; exact (Has.of_own hown2).take n1))
      rw [hpre, decide_eq_true rfl] at HEq
      have Ho2 := Lib.hid ho2
      have Hn2 := Lib.hid hn2
      have HR2 := Lib.hid (Has.of_own hown2)
      have g1 : ¬ n2 < n1 := by omega
      have g2 : ¬ k < (n2 : Int) := by omega
      have g3 : (n1 : Int) ≤ (c2 : Int) := by omega
      clear hpre ho2 hn2 hown2 hb3
      unfold maxLen at q2 q4
      go_wp2_with ((refine HEq.out.mono ?_; rintro e9 w9 ⟨rfl, hd9⟩))
      have hb9 : Below w3.heap.size w3 w9 := drawn_below hd9
      have hb09 := bnext hb03 hb9
      have HR9 := Lib.hid (HR2.out.next hb9)
      clear hb03 hb02 hb1 hb2 hb9 hd9
      go_loopw [71] (fun jv wr => ∃ j : Nat, j ≤ n2 ∧ jv = .int .i64 (j : Nat) ∧ Below w9.heap.size w9 wr) (fun jv _ => n2 + 5 - (intOf jv).toNat)
      case atStart => exact ⟨0, by omega, rfl, Below.refl _ _⟩
      case round =>
        obtain ⟨j, hj, rfl, hbr⟩ := hrel
        have hbs := hbr.size
        by_cases hlt : (j : Int) < (n2 : Int)
        · have hjl : j < o2.length := by rw [← Hn2.out]; omega
          obtain ⟨ad, rfl, _, c0⟩ := (HR9.out.next hbr).at (strCsI_at hjl)
          have hmem : at_ o2 j ∈ U := List.mem_of_mem_take (by rw [← Ho2.out]; exact at_mem hjl)
          have hnod : o2.Nodup := by rw [Ho2.out]; exact HUn.out.sublist (List.take_sublist _ _)
          have hnot : hasS (at_ o2 j) (o2.take j) = false := by
            rw [Bool.eq_false_iff]
            intro g
            have g := (hasS_iff _ _).1 g
            obtain ⟨q, hq, e⟩ := List.getElem_of_mem g
            rw [List.length_take] at hq
            rw [List.getElem_take, at_eq hjl] at e
            have := (List.getElem_inj hnod).1 e
            omega
          obtain ⟨y, hy⟩ : ∃ y, at_ o2 j = y := ⟨_, rfl⟩
          rw [hy] at c0 hmem hnot
          have hx := HUm.out y hmem
          obtain ⟨wa, hwa⟩ : ∃ wa, wr.alloc (.cells #[.string y] 9) = wa := ⟨_, rfl⟩
          have hba : Below wr.heap.size wr wa := by rw [← hwa]; exact one_alloc wr _
          have kb : Blk wa wr.heap.size 9 #[.string y] := by rw [← hwa]; exact Blk.new _ _ _
          have hb0a := bnext hb09 (bnext hbr hba)
          have HC := Lib.hid (containsS_any (some ad) j c2 (o2.take j) (by rw [List.length_take]; omega) (by omega) y wa.drew (by rw [← take_strCs]; exact (((HR9.out.next hbr).next hba).take j)))
          rw [hnot] at HC
          have HT := Lib.hid (fun (w' : World) (hb : Below wa.heap.size wa w') => containsTk_any A n c L Hn.out hl y wr.heap.size w' ((Hh.out.next hb0a).next hb) ((kb.next hb).cell 0) hx)
          have hjc : (j : Int) ≤ (c2 : Int) := by omega
          have d0 : wa.cell? ⟨wr.heap.size, 0, none⟩ = some (.string y) := kb.cell 0
          have HW := Lib.hid hwa
          have Hbr := Lib.hid (bnext hbr hba)
          have Hb0a := Lib.hid hb0a
          clear hy hmem hnot hx hwa hba kb hb0a hjl hnod hbr
          go_wp2_with fail
          rw [HW.out]
          go_still_tail 8, (by kernel_rfl)
          still_call (still_ofR (v := .bool false) HC.out)
          repeat still_step
          refine wpStill_nil ?_
          change wpList _ _ _ _ _ (wa.drewN 1)
          go_wp2_with fail
          refine (HT.out _ (drawn_below ⟨1, rfl⟩)).mono ?_
          rintro e8 w8 ⟨rfl, hb8⟩
          have hb08 := bnext Hbr.out (bnext (drawn_below ⟨1, rfl⟩) hb8)
          clear hb8
          go_wp2_with fail
          go_roundw
          case rel => exact ⟨j + 1, by omega, by go_num, hb08⟩
          case measure => simp [intOf]; omega
        · go_wp2_with fail
          go_ret
          exact R1.mk rfl (bnext hb09 hbr)
  · have hb : (e1 != 0) = true := bne_iff_ne.2 h0
    have hb' : (e1 == 0) = false := beq_eq_false_iff_ne.2 h0
    have ho : o1 = [] := by
      rcases hcase with ⟨_, _, h⟩ | ⟨_, _, _, h⟩ | ⟨_, _, h, _⟩
      · exact h
      · exact h
      · exact absurd h h0
    have h1 : n1 = 0 := by rw [Hn1.out, ho]; rfl
    subst h1
    clear ho hcase
    go_wp2_with fail
    go_ret
    exact R1.mk rfl hb02
end Go.Proofs.Ytmbpgenjjgepiaa
