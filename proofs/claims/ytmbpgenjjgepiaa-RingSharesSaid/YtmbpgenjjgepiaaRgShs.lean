/- RingShares: all shares together are all numbers. Conditions: what comes in lies in its cells. -/
import Derived.Test.YtmbpgenjjgepiaaRgSum
import Derived.Test.YtmbpgenjjgepiaaOpenN
namespace Go.Proofs.Ytmbpgenjjgepiaa
open Go.RowKit Go.Sort

theorem restN_app (vs : List Nat) (v : Nat) : restN (vs ++ [v]) = restN vs + if v = topN then 0 else v := by
  unfold restN
  rw [List.filter_append, List.sum_append]
  by_cases h : v = topN
  · rw [if_pos h, List.filter_cons_of_neg (by simp [h])]; rfl
  · rw [if_neg h, List.filter_cons_of_pos (by simp [h])]; simp
theorem allN_app (vs : List Nat) (v : Nat) : allN (vs ++ [v]) = allN vs + if v = topN then 1 else 0 := by
  unfold allN
  rw [List.filter_append, List.length_append]
  by_cases h : v = topN
  · rw [if_pos h, List.filter_cons_of_pos (by simp [h])]; rfl
  · rw [if_neg h, List.filter_cons_of_neg (by simp [h])]; rfl
theorem allN_le (vs : List Nat) : allN vs ≤ vs.length := List.length_filter_le _ _
theorem tokN_app (l : List Nod) (x : Nod) : tokN (l ++ [x]) = tokN l + x.tk.length := by simp [tokN]

set_option maxRecDepth 1000000 in
set_option maxHeartbeats 8000000 in
theorem ringShares_any (w : World) (A : Option Addr) (c : Nat) (L : List NodE) (hL : ∀ e ∈ L, NodOk w e) (hnc : L.length ≤ c) (hc : c ≤ maxLen) (_hA : A = none → c = 0) (h : Has w w.heap.size A (nodCs L)) (_hr : L.length * 40 ≤ 140737488351232) :
    Calls Try.prog 4 #[.slice A L.length c] w (R1 (.bool true) (Below w.heap.size w)) := by
  obtain ⟨n, hn⟩ : ∃ n, L.length = n := ⟨_, rfl⟩
  have hl : n ≤ maxLen := by omega
  rw [hn] at hnc ⊢
  have HR := Lib.hid (rings_any w)
  have HC := Lib.hid (fun (w' : World) (hb : Below w.heap.size w w') => rcheckN_any A n c L hn hl w' (h.next hb) (fun e he => (hL e he).next hb))
  have Hn := Lib.hid hn
  by_cases hck : chkR (L.map NodE.x) = 0
  · rw [hck] at HC
    have hok := chkR_iff.1 hck
    have h20 : n ≤ 20 := by have := hok.1; rw [List.length_map, hn] at this; exact this
    have htk : ∀ e ∈ L, e.t.l.length ≤ 20 := fun e he => (hok.2.1 e.x (List.mem_map.2 ⟨e, he, rfl⟩)).2.2.1
    have hfin := shares_ring hok (fun x hx t ht => by
      obtain ⟨e, he, rfl⟩ := List.mem_map.1 hx
      exact (hL e he).2.2 t ht)
    have HS := Lib.hid (fun (name : ByteArray) (w' : World) (hb : Below w.heap.size w w') (hnm : ∃ q, q < L.length ∧ (at_ L q).nm = name) => share_any A n c L hn hl name w' (h.next hb) (fun e he => (hL e he).next hb) hck hnm)
    have Hh := Lib.hid h
    have Htk := Lib.hid htk
    obtain ⟨f, hf⟩ : ∃ f : Nod → Nat, (fun x : Nod => shareN (ddAll (L.map NodE.x)) x.nm) = f := ⟨_, rfl⟩
    have hfx : ∀ name, shareN (ddAll (L.map NodE.x)) name = f ⟨name, []⟩ := fun name => by rw [← hf]
    have hff : ∀ x : Nod, f x = f ⟨x.nm, []⟩ := fun x => by rw [← hf]
    rw [hf] at hfin
    have Hfx := Lib.hid hfx
    have Hff := Lib.hid hff
    have Hfin := Lib.hid hfin
    have hlt : ∀ x, f x < 18446744073709551616 := fun x => by
      rw [← hf]
      show shareN _ _ < _
      unfold shareN
      split
      · decide
      · exact shN_lt _ _ _
    have Hlt := Lib.hid hlt
    clear hok htk hfin h hL hn hck hf hfx hff hlt
    go_enter Try.func4, Try.ntmps4
    go_wp2_with fail
    refine HR.out.mono ?_
    rintro e w1 ⟨rfl, hb1⟩
    go_wp2_with fail
    refine (HC.out w1 hb1).mono ?_
    rintro e w2 ⟨rfl, hb2⟩
    have hb02 := bnext hb1 hb2
    clear hb1 hb2
    go_wp2_with fail
    go_loopw [4, 5, 6, 19] (fun sv av tv iv wr => ∃ (k s a t : Nat), k ≤ n ∧ iv = .int .i64 (k : Nat) ∧ sv = .int .u64 (s : Nat) ∧ av = .int .i64 (a : Nat) ∧ tv = .int .i64 (t : Nat) ∧ Hid (s = restN ((L.take k).map fun e => f e.x) % 18446744073709551616) ∧ Hid (a = allN ((L.take k).map fun e => f e.x)) ∧ Hid (t = tokN ((L.take k).map NodE.x)) ∧ s < 18446744073709551616 ∧ a ≤ k ∧ t ≤ k * 20 ∧ Below w.heap.size w wr) (fun _ _ _ iv _ => n + 5 - (intOf iv).toNat)
    case atStart => exact ⟨0, 0, 0, 0, by omega, rfl, rfl, rfl, rfl, Lib.hid rfl, Lib.hid rfl, Lib.hid rfl, by decide, by omega, by omega, hb02⟩
    case round =>
      obtain ⟨k, s, a, t, hk, rfl, rfl, rfl, rfl, hs, ha, ht, hs64, hak, htk, hbr⟩ := hrel
      have hbs := hbr.size
      by_cases hlt : (k : Int) < (n : Int)
      · have hkL : k < L.length := by rw [Hn.out]; omega
        obtain ⟨ad, rfl, _, c0⟩ := (Hh.out.next hbr).at (nodCs_0 hkL)
        obtain ⟨ad', e', _, c1⟩ := (Hh.out.next hbr).at (nodCs_1 hkL)
        injection e' with e'
        subst e'
        have c1 := cell_off c1 (by decide)
        have hl20 := Htk.out _ (at_mem hkL)
        have htake := Lib.hid (take_at (l := L) (k := k) hkL)
        have hx0 : ∃ q, q < L.length ∧ (at_ L q).nm = (at_ L k).nm := ⟨k, hkL, rfl⟩
        obtain ⟨x, hx⟩ : ∃ x, at_ L k = x := ⟨_, rfl⟩
        rw [hx] at c0 c1 hl20 htake hx0
        obtain ⟨nm, ⟨T, tc, tl⟩⟩ := x
        simp only [] at c0 c1 hl20 hx0
        obtain ⟨p, hp⟩ : ∃ p, tl.length = p := ⟨_, rfl⟩
        rw [hp] at c1 hl20
        obtain ⟨v, hv⟩ : ∃ v, f ⟨nm, []⟩ = v := ⟨_, rfl⟩
        have hv64 : v < 18446744073709551616 := by rw [← hv]; exact Hlt.out _
        obtain ⟨W1, hW1⟩ : ∃ W1, wr.alloc (.cells #[.string nm, .slice T p tc] 34) = W1 := ⟨_, rfl⟩
        obtain ⟨g, hgs⟩ : ∃ g, wr.heap.size = g := ⟨_, rfl⟩
        have hk1 : Blk W1 g 34 #[.string nm, .slice T p tc] := by rw [← hW1, ← hgs]; exact Blk.new _ _ _
        have hb1 : Below wr.heap.size wr W1 := by rw [← hW1]; exact one_alloc wr _
        have hb01 := bnext hbr hb1
        have hSh := HS.out nm W1 hb01 hx0
        rw [Hfx.out, hv] at hSh
        have HSh := Lib.hid hSh
        have y0 : W1.cell? ⟨g, 0, none⟩ = some (.string nm) := hk1.cell 0
        have HW := Lib.hid hW1
        have HG := Lib.hid hgs
        have hfv : f (NodE.x ⟨nm, ⟨T, tc, tl⟩⟩) = v := by rw [Hff.out]; exact hv
        have hvs : Hid ((L.take (k + 1)).map (fun e => f e.x) = (L.take k).map (fun e => f e.x) ++ [v]) := Lib.hid (by rw [htake.out, List.map_append, List.map_cons, List.map_nil, hfv])
        have hts : Hid ((L.take (k + 1)).map NodE.x = (L.take k).map NodE.x ++ [⟨nm, tl⟩]) := Lib.hid (by rw [htake.out, List.map_append]; rfl)
        obtain ⟨t2, ht2⟩ : ∃ t2, t + p = t2 := ⟨_, rfl⟩
        have Ht2 := Lib.hid (show t2 = tokN ((L.take (k + 1)).map NodE.x) by rw [hts.out, tokN_app, ← ht.out]; show t2 = t + tl.length; rw [hp]; exact ht2.symm)
        have et : IntKind.i64.wrap ((t : Int) + (p : Int)) = (t2 : Int) := (IntWalk.i64_in _ (by omega)).trans (by omega)
        have ht3 : t2 ≤ (k + 1) * 20 := by omega
        clear hx hx0 hW1 hgs hSh hv hfv hkL hb1 ht2
        go_wp2_with fail
        rw [HW.out, HG.out]
        refine HSh.out.mono ?_
        rintro e w4 ⟨rfl, hb4⟩
        have hb04 := bnext hb01 hb4
        have hk4 := hk1.next hb4
        have y1 : w4.cell? ⟨g, 1, none⟩ = some (.slice T p tc) := hk4.cell 1
        clear hb4 hk1 c0 c1 y0 hb01
        by_cases hvt : v = 18446744073709551615
        · subst hvt
          have E1 := Lib.hid (show s = restN ((L.take (k + 1)).map fun e => f e.x) % 18446744073709551616 by rw [hvs.out, restN_app, if_pos (show 18446744073709551615 = topN from rfl), Nat.add_zero]; exact hs.out)
          have E2 := Lib.hid (show a + 1 = allN ((L.take (k + 1)).map fun e => f e.x) by rw [hvs.out, allN_app, if_pos (show 18446744073709551615 = topN from rfl), ← ha.out])
          clear hs ha ht hvs hts htake
          go_wp2_with fail
          go_roundw
          case rel => exact ⟨k + 1, s, a + 1, t2, by omega, by go_num, rfl, by go_num, by first | rfl | (rw [← et]; done) | go_num, E1, E2, Ht2, hs64, by omega, ht3, hb04⟩
          case measure => simp [intOf]; omega
        · have f1 : ((v : Int) == 18446744073709551615) = false := by rw [beq_eq_false_iff_ne]; omega
          obtain ⟨s2, hs2⟩ : ∃ s2, (s + v) % 18446744073709551616 = s2 := ⟨_, rfl⟩
          have es : IntKind.u64.wrap ((s : Int) + (v : Int)) = (s2 : Int) := by rw [IntKind.wrap_u64, ← hs2]; omega
          have hs3 : s2 < 18446744073709551616 := by rw [← hs2]; exact Nat.mod_lt _ (by decide)
          have E1 := Lib.hid (show s2 = restN ((L.take (k + 1)).map fun e => f e.x) % 18446744073709551616 by rw [hvs.out, restN_app, if_neg (show ¬ v = topN from hvt), ← hs2, hs.out, Nat.mod_add_mod])
          have E2 := Lib.hid (show a = allN ((L.take (k + 1)).map fun e => f e.x) by rw [hvs.out, allN_app, if_neg (show ¬ v = topN from hvt), Nat.add_zero]; exact ha.out)
          clear hs ha ht hvs hts htake hs2 hvt
          go_wp2_with fail
          go_roundw
          case rel => exact ⟨k + 1, s2, a, t2, by omega, by go_num, rfl, rfl, by first | rfl | go_num, E1, E2, Ht2, hs3, by omega, ht3, hb04⟩
          case measure => simp [intOf]; omega
      · obtain rfl : k = n := by omega
        have hfin := Hfin.out
        have e1 : L.take k = L := by rw [← Hn.out, List.take_length]
        have e2 : (L.map NodE.x).map f = L.map fun e => f e.x := by rw [List.map_map]; rfl
        rw [e2] at hfin
        have hs1 := hs.out
        have ha1 := ha.out
        have ht1 := ht.out
        rw [e1] at hs1 ha1 ht1
        rw [← hs1, ← ha1, ← ht1] at hfin
        clear hs ha ht hs1 ha1 ht1 e1 e2
        rcases hfin with ⟨rfl, rfl, rfl⟩ | ⟨h1, rfl, h2⟩ | ⟨h1, rfl, rfl⟩
        · go_wp2_with fail
          go_ret
          exact R1.mk rfl hbr
        · have f1 : ((t : Int) == 0) = false := by rw [beq_eq_false_iff_ne]; omega
          have f2 : decide ((t : Int) > 0) = true := decide_eq_true (by omega)
          have f3 : decide ((a : Int) ≤ 1) = true := decide_eq_true (by omega)
          have f4 : (a : Int) ≤ 1 := by omega
          have f5 : (0 : Int) < (t : Int) := by omega
          clear h1 h2
          go_wp2_with fail
          go_ret
          exact R1.mk rfl hbr
        · have f1 : ((t : Int) == 0) = false := by rw [beq_eq_false_iff_ne]; omega
          have f2 : decide ((t : Int) > 0) = true := decide_eq_true (by omega)
          have f5 : (0 : Int) < (t : Int) := by omega
          clear h1
          go_wp2_with fail
          go_ret
          exact R1.mk rfl hbr
  · obtain ⟨r, hr⟩ : ∃ r, chkR (L.map NodE.x) = r := ⟨_, rfl⟩
    rw [hr] at HC hck
    have f1 : (r != 0) = true := bne_iff_ne.2 hck
    clear hck hr h hL hn
    go_enter Try.func4, Try.ntmps4
    go_wp2_with fail
    refine HR.out.mono ?_
    rintro e w1 ⟨rfl, hb1⟩
    go_wp2_with fail
    refine (HC.out w1 hb1).mono ?_
    rintro e w2 ⟨rfl, hb2⟩
    have hb02 := bnext hb1 hb2
    clear hb1 hb2
    go_wp2_with fail
    go_ret
    exact R1.mk rfl hb02
end Go.Proofs.Ytmbpgenjjgepiaa
