/- What Check of package sketch answers. Conditions: rows lie in their cells. -/
import Derived.Test.YtkkadfjcnocopaaSkIter
import Derived.Test.YtkkadfjcnocopaaSkLaw
namespace Go.Proofs.Ytkkadfjcnocopaa
open Go.RowKit Go.Shelf

attribute [local go_sem] Oper.semAt_some

set_option maxRecDepth 1000000 in
set_option maxHeartbeats 1000000 in
theorem size_any (D W : Int) (w : World) : Calls Try.prog 77 #[.int .i64 D, .int .i64 W] w (R1 (.bool (decide (szOk D W))) (fun w' => w' = w)) := by
  by_cases h : szOk D W
  · have e := Lib.hid (decide_eq_true h)
    obtain ⟨h1, h2, h3, h4⟩ := h
    go_enter Try.func77, Try.ntmps77
    go_wp2_with fail
    go_ret
    exact R1.mk (bool_eq e.out.symm) rfl
  · have e := Lib.hid (decide_eq_false h)
    unfold szOk at h
    go_enter Try.func77, Try.ntmps77
    go_wp2_with fail
    all_goals try (exfalso; omega)
    all_goals
      go_ret
      exact R1.mk (bool_eq (by first | (rw [e.out]; done) | (rw [e.out]; simp; omega) | (rw [e.out]; simp))) rfl

set_option maxRecDepth 1000000 in
set_option maxHeartbeats 4000000 in
theorem scheckBad_any (D W : Int) (A : Option Addr) (n c : Nat) (N : Int) (hbad : ¬ (szOk D W ∧ (n : Int) = D * W ∧ 0 ≤ N ∧ N ≤ 1152921504606846976)) (w : World) :
    Calls Try.prog 27 #[.agg #[.int .i64 D, .int .i64 W, .slice A n c, .int .i64 N]] w (R1 (.int .i64 4) (Below w.heap.size w)) := by
  by_cases h : szOk D W
  · have e := Lib.hid (decide_eq_true h)
    obtain ⟨h1, h2, h3, h4⟩ := h
    obtain ⟨d, rfl⟩ := Int.eq_ofNat_of_zero_le (show 0 ≤ D by omega)
    obtain ⟨wd, rfl⟩ := Int.eq_ofNat_of_zero_le (show 0 ≤ W by omega)
    obtain ⟨m, hm⟩ : ∃ m : Nat, m = d * wd := ⟨_, rfl⟩
    have hm1 : (d : Int) * (wd : Int) = (m : Int) := by rw [hm, Int.natCast_mul]
    have hmb : m ≤ 1600 := by rw [hm]; exact Nat.mul_le_mul (show d ≤ 8 by omega) (show wd ≤ 200 by omega)
    have ew : wrap64 ((d : Int) * (wd : Int)) = (m : Int) := by rw [hm1]; unfold wrap64; omega
    by_cases hnm : n = m
    · have hb : ¬ (0 ≤ N ∧ N ≤ 1152921504606846976) := fun h => hbad ⟨⟨h1, h2, h3, h4⟩, by rw [hm1, hnm], h⟩
      clear hbad
      subst hnm
      clear hm hm1
      go_enter Try.func27, Try.ntmps27
      go_wp2_with fail
      refine (size_any _ _ _).mono ?_
      rw [e.out]
      rintro e' w1 ⟨rfl, rfl⟩
      go_wp2_with fail
      all_goals try (exfalso; omega)
      all_goals exact bodyPost_ret (v := .int .i64 4) (by simp [results, Try.results27, go_sem, *]) rfl (R1.mk rfl (((Below.refl _ _).alloc (Nat.le_refl _) _).alloc (by simp) _))
    · have hb : ((n : Int) != (m : Int)) = true := by rw [bne_iff_ne]; omega
      clear hbad hm hm1
      have Hnm := Lib.hid hnm; clear hnm
      go_enter Try.func27, Try.ntmps27
      go_wp2_with fail
      refine (size_any _ _ _).mono ?_
      rw [e.out]
      rintro e' w1 ⟨rfl, rfl⟩
      go_wp2_with fail
      all_goals exact bodyPost_ret (v := .int .i64 4) (by simp [results, Try.results27, go_sem, *]) rfl (R1.mk rfl (((Below.refl _ _).alloc (Nat.le_refl _) _).alloc (by simp) _))
  · have e := Lib.hid (decide_eq_false h)
    clear hbad h
    go_enter Try.func27, Try.ntmps27
    go_wp2_with fail
    refine (size_any _ _ _).mono ?_
    rw [e.out]
    rintro e' w1 ⟨rfl, rfl⟩
    go_wp2_with fail
    all_goals exact bodyPost_ret (v := .int .i64 4) (by simp [results, Try.results27, go_sem, *]) rfl (R1.mk rfl (((Below.refl _ _).alloc (Nat.le_refl _) _).alloc (by simp) _))

def goodP (N : Int) (C : List Int) {ad : Addr} {wd d : Nat} (pre : List (Part ad wd d)) : Prop := ∀ x ∈ pre, leftR N (rowK C wd x.1.2) = some 0
def badP (N : Int) (C : List Int) {ad : Addr} {wd d : Nat} (pre : List (Part ad wd d)) : Prop := ∃ x ∈ pre, leftR N (rowK C wd x.1.2) ≠ some 0
theorem goodP.nil (N : Int) (C : List Int) {ad : Addr} {wd d : Nat} : goodP N C ([] : List (Part ad wd d)) := fun x h => by simp at h
theorem goodP.snoc {N : Int} {C : List Int} {ad : Addr} {wd d : Nat} {pre : List (Part ad wd d)} {x : Part ad wd d} (h : goodP N C pre) (hx : leftR N (rowK C wd x.1.2) = some 0) : goodP N C (pre ++ [x]) := fun y hy => by
  rcases List.mem_append.1 hy with h1 | h1
  · exact h y h1
  · rw [List.mem_singleton] at h1; rw [h1]; exact hx
theorem badP.snoc {N : Int} {C : List Int} {ad : Addr} {wd d : Nat} (pre : List (Part ad wd d)) {x : Part ad wd d} (hx : leftR N (rowK C wd x.1.2) ≠ some 0) : badP N C (pre ++ [x]) := ⟨x, by simp, hx⟩
theorem row_has {w : World} {B : Nat} {ad : Addr} {C : List Int} {wd k : Nat} (h : Has w B (some ad) (i64s C)) : Has w B (some (ad.add (k * wd))) (i64s (rowK C wd k)) := by
  intro hx
  have hne : i64s C ≠ [] := by intro e; apply hx; have : C = [] := by simpa [i64s] using e
                               rw [this]; simp [rowK, i64s]
  obtain ⟨ad', e, hb, hc⟩ := h hne
  injection e with e
  subst e
  refine ⟨_, rfl, by rw [add_block]; exact hb, fun j u hu => ?_⟩
  rw [add_add_]
  apply hc
  simp only [i64s, rowK, List.getElem?_map, List.getElem?_take, List.getElem?_drop] at hu ⊢
  split at hu
  · exact hu
  · simp at hu

set_option maxRecDepth 1000000 in
set_option maxHeartbeats 4000000 in
theorem scheckGood_any (d wd : Nat) (ad : Addr) (c : Nat) (C : List Int) (N : Int) (h1 : 1 ≤ d) (h2 : d ≤ 8) (h3 : 1 ≤ wd) (h4 : wd ≤ 200) (hCl : C.length = d * wd) (hc : C.length ≤ c) (hcm : c ≤ maxLen) (hN0 : 0 ≤ N) (hN1 : N ≤ 1152921504606846976) (hCi : I64in C) (w : World) (hC : Has w w.heap.size (some ad) (i64s C)) :
    Calls Try.prog 27 #[.agg #[.int .i64 d, .int .i64 wd, .slice (some ad) C.length c, .int .i64 N]] w (R1 (.int .i64 (if ∀ k, k < d → leftR N (rowK C wd k) = some 0 then 0 else 4)) (Below w.heap.size w)) := by
  have e := Lib.hid (decide_eq_true (show szOk (d : Int) (wd : Int) from ⟨by omega, by omega, by omega, by omega⟩))
  obtain ⟨m, hm⟩ : ∃ m : Nat, C.length = m := ⟨_, rfl⟩
  have hmb : m ≤ 1600 := by rw [← hm, hCl]; exact Nat.mul_le_mul (show d ≤ 8 by omega) (show wd ≤ 200 by omega)
  have ew : wrap64 ((d : Int) * (wd : Int)) = (m : Int) := by
    have : (d : Int) * (wd : Int) = (m : Int) := by rw [← hm, hCl, Int.natCast_mul]
    rw [this]; unfold wrap64; omega
  have dn0 : decide (N < 0) = false := decide_eq_false (by omega)
  have dn1 : decide (1152921504606846976 < N) = false := decide_eq_false (by omega)
  obtain ⟨r, hr⟩ : ∃ r : Int, (if ∀ k, k < d → leftR N (rowK C wd k) = some 0 then 0 else 4) = r := ⟨_, rfl⟩
  rw [hr]
  have Hr := Lib.hid hr
  clear hr
  rw [hm] at hc ⊢
  have Hm := Lib.hid hm
  have HCl := Lib.hid hCl
  have HC := Lib.hid hC
  clear hm hCl hC
  refine (callsIn_wide (n := 9)).1 ?_
  refine callsIn_of_wp_marks Try.func27 rfl trivial ?_ rfl
  simp only [Try.ntmps27, List.size_toArray, List.length_cons, List.length_nil, Nat.reduceAdd, Nat.reduceSub, Array.replicate_succ, Array.replicate_zero, List.push_toArray, List.append_toArray, List.nil_append, List.cons_append]
  gi_wp2_with (first | (refine ⟨trivial, ?_⟩; gi_at_call 77; refine (callsIn_wide.2 (size_any _ _ _)).mono ?_; rw [e.out]; rintro e' w1 ⟨rfl, rfl⟩) | (refine ⟨trivial, ?_⟩; gi_at_call 78; refine (callsIn_wide.2 (chunk_any _ _ _ wd h3 _)).mono ?_; rintro e' w2 ⟨v, rfl, rfl, rfl⟩))
  obtain ⟨w0, hw0⟩ : ∃ w0, ((((w.alloc (.cells #[.int .i64 d, .int .i64 wd, .slice (some ad) m c, .int .i64 N] 34)).alloc (.cells #[.int .i64 0] 27)).alloc (.cells #[.slice (some ad) m c] 22)).alloc (.cells #[.int .i64 wd] 3)) = w0 := ⟨_, rfl⟩
  have hsz : w0.heap.size = w.heap.size + 1 + 1 + 1 + 1 := by rw [← hw0]; simp
  have hb0 : Below w.heap.size w w0 := by rw [← hw0]; exact ((((Below.refl _ _).alloc (Nat.le_refl _) _).alloc (by simp) _).alloc (by simp; omega) _).alloc (by simp; omega) _
  have kS : Blk w0 w.heap.size 34 #[.int .i64 d, .int .i64 wd, .slice (some ad) m c, .int .i64 N] := by rw [← hw0]; exact (((Blk.new _ _ _).alloc _).alloc _).alloc _
  have kR : Blk w0 (w.heap.size + 1) 27 #[.int .i64 0] := by
    rw [← hw0]
    have := ((Blk.new (w.alloc (.cells #[.int .i64 d, .int .i64 wd, .slice (some ad) m c, .int .i64 N] 34)) 27 #[.int .i64 0]).alloc (.cells #[.slice (some ad) m c] 22)).alloc (.cells #[.int .i64 wd] 3)
    rwa [World.size_alloc] at this
  have kA : Blk w0 (w.heap.size + 1 + 1) 22 #[.slice (some ad) m c] := by
    rw [← hw0]
    have := (Blk.new ((w.alloc (.cells #[.int .i64 d, .int .i64 wd, .slice (some ad) m c, .int .i64 N] 34)).alloc (.cells #[.int .i64 0] 27)) 22 #[.slice (some ad) m c]).alloc (.cells #[.int .i64 wd] 3)
    rwa [World.size_alloc, World.size_alloc] at this
  have kB : Blk w0 (w.heap.size + 1 + 1 + 1) 3 #[.int .i64 wd] := by
    rw [← hw0]
    have := Blk.new (((w.alloc (.cells #[.int .i64 d, .int .i64 wd, .slice (some ad) m c, .int .i64 N] 34)).alloc (.cells #[.int .i64 0] 27)).alloc (.cells #[.slice (some ad) m c] 22)) 3 #[.int .i64 wd]
    rwa [World.size_alloc, World.size_alloc, World.size_alloc] at this
  rw [hw0]
  clear hw0
  refine wpIn_rangeFunc_ownF rfl (by decide) (gf := 110) (lb := #[.pointer (some ⟨w.heap.size + 1 + 1, 0, none⟩), .pointer (some ⟨w.heap.size + 1 + 1 + 1, 0, none⟩)]) rfl trivial (enters_of Try.func110 (by kernel_rfl) rfl)
    (chunk_stops 8 (by decide) (w.heap.size + 1 + 1) (w.heap.size + 1 + 1 + 1) w0.heap.size ad c wd d m h3 h4 h2 (by rw [← Hm.out]; exact HCl.out) hc (by omega) (by omega) w0 (Nat.le_refl _) (kA.cell 0) (kB.cell 0)) belowK_t (belowK_b (Nat.le_refl _)) (Below.refl _ _) (fun _ => rfl)
    (fun pre W => (goodP N C pre ∧ W.cell? ⟨w.heap.size, 3, none⟩ = some (.int .i64 N) ∧ W.cell? ⟨w.heap.size + 1, 0, none⟩ = some (.int .i64 0) ∧ W.frozen? ⟨w.heap.size + 1, 0, none⟩ = false) ∧ Below w.heap.size w W)
    (fun q pre W => (q = .ret ∧ badP N C pre ∧ W.cell? ⟨w.heap.size + 1, 0, none⟩ = some (.int .i64 4)) ∧ Below w.heap.size w W)
    (OwnFrom.and (Own.from (fun s A B row hs hg hr => ⟨hs.1, cell_kept hs.2.1 hg hr, cell_kept hs.2.2.1 hg hr, (frozen_kept hs.2.2.1 hg hr).trans hs.2.2.2⟩) _) (ownFrom_below (Nat.le_refl _) (by omega)))
    (fun q => OwnFrom.and (Own.from (fun s A B row hs hg hr => ⟨hs.1, hs.2.1, cell_kept hs.2.2 hg hr⟩) _) (ownFrom_below (Nat.le_refl _) (by omega)))
    ⟨⟨goodP.nil N C, kS.cell 3, kR.cell 0, kR.frozen 0⟩, hb0⟩
    (fun x => { tmps := #[.agg #[.int .i64 d, .int .i64 wd, .slice (some ad) m c, .int .i64 N], .pointer (some ⟨w.heap.size, 0, none⟩), .pointer (some ⟨w.heap.size + 1, 0, none⟩), .slice (some x.1.1) wd wd, undef, undef, undef, .pointer (some ⟨w.heap.size, 0, none⟩), .int .i64 d, .pointer (some ⟨w.heap.size, 1, none⟩), .int .i64 wd, .bool true, .bool false, .bool false, .pointer (some ⟨w.heap.size, 2, none⟩), .slice (some ad) m c, .int .i64 m, .pointer (some ⟨w.heap.size, 0, none⟩), .int .i64 d, .pointer (some ⟨w.heap.size, 1, none⟩), .int .i64 wd, .int .i64 m, .bool false, .bool false, .bool false, .pointer (some ⟨w.heap.size, 3, none⟩), .int .i64 N, .bool false, .bool false, .bool false, .pointer (some ⟨w.heap.size, 3, none⟩), .int .i64 N, .bool false, .bool false, .pointer (some ⟨w.heap.size, 2, none⟩), .slice (some ad) m c, .pointer (some ⟨w.heap.size, 1, none⟩), .int .i64 wd, .func (.func 110) #[] #[.pointer (some ⟨w.heap.size + 1 + 1, 0, none⟩), .pointer (some ⟨w.heap.size + 1 + 1 + 1, 0, none⟩)], .slice (some x.1.1) wd wd, undef, undef, undef, undef, undef, undef, undef, undef, undef, undef, undef, undef, undef, undef, undef, undef, undef, undef, undef, undef, undef], defers := [] }) ?assign ?body ?done ?stop
  case assign =>
    intro l x W K hK
    unfold partV
    gi_wp2
    exact hK
  case body =>
    rintro l pre x W ⟨⟨hp, hcN, hcR, hfR⟩, hB⟩ _
    obtain ⟨R, hR⟩ : ∃ R, rowK C wd x.1.2 = R := ⟨_, rfl⟩
    have hRl : R.length = wd := by rw [← hR]; exact rowK_len HCl.out x.2.2
    have hRow : Has W W.heap.size (some x.1.1) (i64s R) := by rw [← hR, x.2.1]; exact row_has (HC.out.next hB)
    have HR := Lib.hid hR
    have HRl := Lib.hid hRl
    clear hR hRl
    gi_wp2
    gi_loopw [4, 44] (fun lf i wr => ∃ (j : Nat) (z : Int), j ≤ wd ∧ i = .int .i64 (j : Nat) ∧ lf = .int .i64 z ∧ 0 ≤ z ∧ z ≤ N ∧ Hid (leftR N R = leftR z (R.drop j)) ∧ wr = W) (fun _ i _ => wd - (intOf i).toNat)
    case atStart => exact ⟨0, N, by omega, rfl, rfl, hN0, by omega, Lib.hid rfl, rfl⟩
    case round =>
      obtain ⟨j, z, hj, rfl, rfl, hz0, hz1, hs, rfl⟩ := hrel
      by_cases hlt : (j : Int) < (wd : Int)
      · have hjl : j < R.length := by rw [HRl.out]; omega
        obtain ⟨bd, ebd, _, cj⟩ := hRow.at (i64s_at hjl)
        injection ebd with ebd
        rw [← ebd] at cj
        clear ebd
        have hst := Lib.hid (leftR_step hjl hs.out)
        obtain ⟨n, hn⟩ : ∃ n, at_ R j = n := ⟨_, rfl⟩
        rw [hn] at cj hst
        clear hn hjl
        by_cases hn0 : n < 0
        · have HBad := Lib.hid (show leftR N R = none by rw [hst.out, if_pos (.inl hn0)])
          gi_wp2
          exact ⟨KeepsOthers.setCell _ _ _, ⟨rfl, badP.snoc pre (by rw [HR.out, HBad.out]; simp), World.cell?_setCell_same' _ _ _ (by rw [hcR]; rfl)⟩, hB.setCell (p := ⟨w.heap.size + 1, 0, none⟩) (by simp) _⟩
        · by_cases hnz : z < n
          · have HBad := Lib.hid (show leftR N R = none by rw [hst.out, if_pos (.inr hnz)])
            gi_wp2
            exact ⟨KeepsOthers.setCell _ _ _, ⟨rfl, badP.snoc pre (by rw [HR.out, HBad.out]; simp), World.cell?_setCell_same' _ _ _ (by rw [hcR]; rfl)⟩, hB.setCell (p := ⟨w.heap.size + 1, 0, none⟩) (by simp) _⟩
          · have ew1 : Value.int .i64 (wrap64 (z - n)) = Value.int .i64 (z - n) := int_eq (by unfold wrap64; omega)
            gi_wp2
            go_roundw
            case rel => exact ⟨j + 1, z - n, by omega, by go_num, rfl, by omega, by omega, Lib.hid (by rw [hst.out, if_neg (by omega)]), by trivial⟩
            case measure => simp [intOf]; omega
      · have hend := Lib.hid (show leftR N R = some z by rw [hs.out, List.drop_eq_nil_of_le (by rw [HRl.out]; omega)]; rfl)
        by_cases hz : z = 0
        · subst hz
          gi_wp2
          exact ⟨KeepsOthers.refl _, Below.refl _ _, ⟨hp.snoc (by rw [HR.out, hend.out]), hcN, hcR, hfR⟩, hB⟩
        · have hzb : (z != 0) = true := by rw [bne_iff_ne]; exact hz
          gi_wp2
          exact ⟨KeepsOthers.setCell _ _ _, ⟨rfl, badP.snoc pre (by rw [HR.out, hend.out]; intro e; injection e with e; exact hz e), World.cell?_setCell_same' _ _ _ (by rw [hcR]; rfl)⟩, hB.setCell (p := ⟨w.heap.size + 1, 0, none⟩) (by simp) _⟩
  case done =>
    rintro D ys W hD hys ⟨⟨hp, _, hcr, hfr⟩, hB⟩ hK
    gi_wp2
    have hK' := (KeepsOthers.setCell W ⟨w.heap.size + 1, 0, none⟩ (.int .i64 0)).same D _ hK rfl
    refine ⟨by simp, .inl ⟨_, _, rfl, run_takeDeferred hK', ?_⟩⟩
    have hc5 := cell_kept (World.cell?_setCell_same' W ⟨w.heap.size + 1, 0, none⟩ (.int .i64 0) (by rw [hcr]; rfl)) (grownBy_putObj' _ D (.deferred none)) (fun r e => by cases e; exact ⟨_, hK', rfl⟩)
    have hall : ∀ k, k < d → leftR N (rowK C wd k) = some 0 := fun k hk => by
      have h1 : k ∈ nums ys := by rw [hys]; exact List.mem_range.2 hk
      obtain ⟨x, hx, rfl⟩ := List.mem_map.1 h1
      exact hp x hx
    refine ⟨.int .i64 0, ?_, R1.mk (int_eq (by rw [← Hr.out, if_pos hall])) ((hB.setCell (p := ⟨w.heap.size + 1, 0, none⟩) (by simp) _).trans (belowK_b (w := w) (Nat.le_refl _) _ D _ _ (by omega) hK' rfl rfl))⟩
    simp [results, Try.results27, go_sem, hc5]
  case stop =>
    rintro D q pre W hD _ ⟨⟨rfl, ⟨x, hx, hne⟩, hcr⟩, hB⟩ hK
    gi_wp2
    refine ⟨by simp, .inl ⟨_, _, rfl, run_takeDeferred hK, ?_⟩⟩
    have hc5 := cell_kept hcr (grownBy_putObj' _ D (.deferred none)) (fun r e => by cases e; exact ⟨_, hK, rfl⟩)
    refine ⟨.int .i64 4, ?_, R1.mk (int_eq (by rw [← Hr.out, if_neg (fun h => hne (h _ x.2.2))])) (hB.trans (belowK_b (w := w) (Nat.le_refl _) W D _ _ (by omega) hK rfl rfl))⟩
    simp [results, Try.results27, go_sem, hc5]
end Go.Proofs.Ytkkadfjcnocopaa
