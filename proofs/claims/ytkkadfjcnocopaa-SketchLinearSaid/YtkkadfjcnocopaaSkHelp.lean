/- Empty of package sketch and what the laws on sketches lean on. Conditions: rows lie in their cells. -/
import Derived.Test.YtkkadfjcnocopaaSkSum
import Derived.Test.YtkkadfjcnocopaaEqI64
import Derived.OwnWalk
namespace Go.Proofs.Ytkkadfjcnocopaa
open Go.RowKit

theorem two_allocs (w : World) (o p : Obj) : Below w.heap.size w ((w.alloc o).alloc p) := ((Below.refl _ _).alloc (Nat.le_refl _) _).alloc (by simp) _
theorem one_alloc (w : World) (o : Obj) : Below w.heap.size w (w.alloc o) := (Below.refl _ _).alloc (Nat.le_refl _) _
def emptyN (D W : Int) : Sk × Int := if szOk D W then (⟨D, W, List.replicate (D * W).toNat 0, 0⟩, 0) else (skZero, 1)
theorem zeros_in (n : Nat) : I64in (List.replicate n 0) := fun x hx => by rw [List.eq_of_mem_replicate hx]; decide
theorem infoI64 : (Try.prog.info? 2).map (fun i => (i.zero, i.size, i.bytes)) = some (some (.int .i64 0), 1, 8) := by kernel_rfl

set_option maxRecDepth 1000000 in
set_option maxHeartbeats 4000000 in
theorem emptyS_anyF (D W : Int) (w : World) : Calls Try.prog 75 #[.int .i64 D, .int .i64 W] w (RV (SkF (emptyN D W) w)) := by
  obtain ⟨z, hz⟩ : ∃ z, emptyN D W = z := ⟨_, rfl⟩
  rw [hz]
  by_cases h : szOk D W
  · have e := Lib.hid (decide_eq_true h)
    have ez := Lib.hid (show z = (⟨D, W, List.replicate (D * W).toNat 0, 0⟩, 0) by rw [← hz, emptyN, if_pos h])
    clear hz
    obtain ⟨h1, h2, h3, h4⟩ := h
    obtain ⟨d, rfl⟩ := Int.eq_ofNat_of_zero_le (show 0 ≤ D by omega)
    obtain ⟨wd, rfl⟩ := Int.eq_ofNat_of_zero_le (show 0 ≤ W by omega)
    obtain ⟨m, hm⟩ : ∃ m : Nat, m = d * wd := ⟨_, rfl⟩
    have hm1 : (d : Int) * (wd : Int) = (m : Int) := by rw [hm, Int.natCast_mul]
    have hmb : m ≤ 1600 := by rw [hm]; exact Nat.mul_le_mul (show d ≤ 8 by omega) (show wd ≤ 200 by omega)
    have ew : IntKind.i64.wrap ((d : Int) * (wd : Int)) = (m : Int) := by rw [hm1]; exact IntWalk.i64_in _ (by omega)
    have HM := Lib.hid hm1
    clear hm hm1
    obtain ⟨i0, i1, i2, i3, i4⟩ := info_parts infoI64
    go_enter Try.func75, Try.ntmps75
    go_wp2_with fail
    refine (size_any _ _ _).mono ?_
    rw [e.out]
    rintro e' w1 ⟨rfl, rfl⟩
    obtain ⟨w2, hrun, hown, hgrow⟩ := run_make_full (P := Try.prog) (w.alloc (.cells #[.int .i64 0, .int .i64 0, .slice none 0 0, .int .i64 0] 34)) (w.heap.size + 1) 22 2 i0 (.int .i64 0) 1 Try.underlying22 i1 i2 i3 .i64 .i64 m (by rw [i4]; omega) (by unfold maxLen; omega) (by simp)
    have hrun : (Instr.makeSlice 22 (.int .i64 (m : Int)) (.int .i64 (m : Int))).run Try.prog (w.alloc (.cells #[.int .i64 0, .int .i64 0, .slice none 0 0, .int .i64 0] 34)) = .ok (.slice (some ⟨w.heap.size + 1, 0, none⟩) m m) w2 := by simpa using hrun
    have hbg := hgrow
    have kR : Blk w2 w.heap.size 34 #[.int .i64 0, .int .i64 0, .slice none 0 0, .int .i64 0] := (Blk.new w _ _).grown hgrow (by simp)
    have r0 : w2.cell? ⟨w.heap.size, 0, none⟩ = some (.int .i64 0) := kR.cell 0
    have r1 : w2.cell? ⟨w.heap.size, 1, none⟩ = some (.int .i64 0) := kR.cell 1
    have r2 : w2.cell? ⟨w.heap.size, 2, none⟩ = some (.slice none 0 0) := kR.cell 2
    have r3 : w2.cell? ⟨w.heap.size, 3, none⟩ = some (.int .i64 0) := kR.cell 3
    have f0 := kR.frozen 0
    have f1 := kR.frozen 1
    have f2 := kR.frozen 2
    have f3 := kR.frozen 3
    go_wp2_with fail
    refine bodyPost_ret (v := .tuple #[.agg #[.int .i64 d, .int .i64 wd, .slice (some ⟨w.heap.size + 1, 0, none⟩) m m, .int .i64 0], .int .i64 0]) (by simp [results, Try.results75, go_sem, *]) rfl (RV.mk ?_)
    rw [ez.out, HM.out, Int.toNat_natCast]
    have hown2 : w2.ownsRow (w.heap.size + 1) 2 1 (.slice (some ⟨w.heap.size + 1, 0, none⟩) m m) m (i64s (List.replicate m 0)) := by
      have h1 := hown
      rw [World.size_alloc, Nat.mul_one] at h1
      have h2 : i64s (List.replicate m 0) = (madeCells (Value.int .i64 0).cells m).toList := by
        show _ = (madeCells #[Value.int .i64 0] m).toList
        rw [toList_madeCells_one]
        simp [i64s, i64v]
      rw [h2]
      exact h1
    have hb2 : Below w.heap.size w w2 := (one_alloc w _).grown hgrow (by simp) (fun k e => by cases e)
    have hoX := ownsRow_setCell_other (ownsRow_setCell_other (ownsRow_setCell_other (ownsRow_setCell_other hown2 (a := ⟨w.heap.size, 0, none⟩) (by simp [Value.ownBlock]) (.int .i64 d)) (a := ⟨w.heap.size, 1, none⟩) (by simp [Value.ownBlock]) (.int .i64 wd)) (a := ⟨w.heap.size, 2, none⟩) (by simp [Value.ownBlock]) (.slice (some ⟨w.heap.size + 1, 0, none⟩) m m)) (a := ⟨w.heap.size, 3, none⟩) (by simp [Value.ownBlock]) (.int .i64 0)
    refine ⟨some ⟨w.heap.size + 1, 0, none⟩, m, by simp only [List.length_replicate], ?_, (((hb2.setCell (by simp) _).setCell (by simp) _).setCell (by simp) _).setCell (by simp) _, fun ad e => by injection e with e; subst e; show w.heap.size ≤ w.heap.size + 1; omega⟩
    exact ⟨_, _, rfl, by rw [List.length_replicate]; exact Nat.le_refl _, by unfold maxLen; omega, (fun e => by cases e), Has.of_own hoX, zeros_in m⟩
  · have e := Lib.hid (decide_eq_false h)
    have ez := Lib.hid (show z = (skZero, 1) by rw [← hz, emptyN, if_neg h])
    clear hz h
    go_enter Try.func75, Try.ntmps75
    go_wp2_with fail
    refine (size_any _ _ _).mono ?_
    rw [e.out]
    rintro e' w1 ⟨rfl, rfl⟩
    go_wp2_with fail
    refine bodyPost_ret (v := .tuple #[.agg #[.int .i64 0, .int .i64 0, .slice none 0 0, .int .i64 0], .int .i64 1]) (by simp [results, Try.results75, go_sem, *]) rfl (RV.mk ?_)
    rw [ez.out]
    exact ⟨none, 0, rfl, intAt_nil _, (Below.refl _ _).alloc (Nat.le_refl _) _, fun ad e => by cases e⟩

theorem emptyS_any (D W : Int) (w : World) : Calls Try.prog 75 #[.int .i64 D, .int .i64 W] w (RV (SkP (emptyN D W) w)) := SkF.p (emptyS_anyF D W w)

set_option maxRecDepth 1000000 in
set_option maxHeartbeats 4000000 in
theorem sameSk_any (D W : Int) (A : Option Addr) (c : Nat) (C : List Int) (N : Int) (D' W' : Int) (B : Option Addr) (c' : Nat) (K : List Int) (N' : Int) (w : World) (hC : IntAt w (.slice A C.length c) C) (hK : IntAt w (.slice B K.length c') K) :
    Calls Try.prog 29 #[.agg #[.int .i64 D, .int .i64 W, .slice A C.length c, .int .i64 N], .agg #[.int .i64 D', .int .i64 W', .slice B K.length c', .int .i64 N']] w
      (R1 (.bool (decide (D = D') && (decide (W = W') && (decide (N = N') && decide (C = K))))) (Below w.heap.size w)) := by
  obtain ⟨A0, c0, e0, k1, k2, k3, k4, k5⟩ := hC
  injection e0 with e1 _ e2
  subst e1 e2
  obtain ⟨B0, b0, e0, j1, j2, j3, j4, j5⟩ := hK
  injection e0 with e1 _ e2
  subst e1 e2
  by_cases h1 : D = D'
  · subst h1
    by_cases h2 : W = W'
    · subst h2
      by_cases h3 : N = N'
      · subst h3
        obtain ⟨r, hr⟩ : ∃ r, decide (C = K) = r := ⟨_, rfl⟩
        have ee := Lib.hid (show (decide (D = D) && (decide (W = W) && (decide (N = N) && decide (C = K)))) = r by rw [hr]; simp)
        rw [ee.out]
        have Hr := Lib.hid hr
        clear hr ee
        go_enter Try.func29, Try.ntmps29
        go_wp2_with fail
        refine (equalI64_any A B _ _ c c' C K rfl rfl (Nat.le_trans k1 k2) (Nat.le_trans j1 j2) _ ?k1 ?k2).mono ?_
        case k1 => exact k4.next (two_allocs _ _ _)
        case k2 => exact j4.next (two_allocs _ _ _)
        rw [Hr.out]
        rintro e w3 ⟨rfl, n3, rfl⟩
        go_wp2_with fail
        go_ret
        exact R1.mk rfl (below_drewN (two_allocs _ _ _) _)
      · have d3 : decide (N = N') = false := decide_eq_false h3
        have ee := Lib.hid (show (decide (D = D) && (decide (W = W) && (decide (N = N') && decide (C = K)))) = false by rw [d3]; simp)
        rw [ee.out]
        go_enter Try.func29, Try.ntmps29
        go_wp2_with fail
        go_ret
        exact R1.mk rfl (two_allocs _ _ _)
    · have d2 : decide (W = W') = false := decide_eq_false h2
      have ee := Lib.hid (show (decide (D = D) && (decide (W = W') && (decide (N = N') && decide (C = K)))) = false by rw [d2]; simp)
      rw [ee.out]
      go_enter Try.func29, Try.ntmps29
      go_wp2_with fail
      go_ret
      exact R1.mk rfl (two_allocs _ _ _)
  · have d1 : decide (D = D') = false := decide_eq_false h1
    have ee := Lib.hid (show (decide (D = D') && (decide (W = W') && (decide (N = N') && decide (C = K)))) = false by rw [d1]; simp)
    rw [ee.out]
    go_enter Try.func29, Try.ntmps29
    go_wp2_with fail
    go_ret
    exact R1.mk rfl (two_allocs _ _ _)

set_option maxRecDepth 1000000 in
set_option maxHeartbeats 4000000 in
theorem sketches_true (w : World) : Calls Try.prog 22 #[] w (R1 (.bool true) (Below w.heap.size w)) := by
  have e0 : Hid (emptyN 2 3 = (⟨2, 3, [0, 0, 0, 0, 0, 0], 0⟩, 0)) := Lib.hid (by unfold emptyN; rw [if_pos (show szOk 2 3 from ⟨by decide, by decide, by decide, by decide⟩)]; rfl)
  go_enter Try.func22, Try.ntmps22
  go_wp2_with fail
  refine (emptyS_any 2 3 _).mono ?_
  rw [e0.out]
  rintro e w1 ⟨v, rfl, A, c, rfl, hI, hb1⟩
  clear hI
  go_wp2_with fail
  go_ret
  exact R1.mk rfl (bnext hb1 (one_alloc _ _))
end Go.Proofs.Ytkkadfjcnocopaa
