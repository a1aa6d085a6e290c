/- The walk of the law ClaimNewer: it returns true. Conditions: the arguments fit their kinds. -/
import Derived.Test.YtkkadfjcnocopaaNewerLaw
import Derived.Test.YtkkadfjcnocopaaOpenC
import Derived.Deep.RegionHeld3
namespace Go.Proofs.Ytkkadfjcnocopaa
open Go.RowKit

set_option maxRecDepth 1000000 in
set_option maxHeartbeats 1000000 in
theorem claims_true (w : World) : Calls Try.prog 32 #[] w (R1 (.bool true) (Below w.heap.size w)) := by
  have e : Hid (newerN ⟨1, 0, ⟨#[]⟩, []⟩ ⟨0, 0, ⟨#[]⟩, []⟩ = true) := Lib.hid (by decide +kernel)
  go_enter Try.func32, Try.ntmps32
  go_wp2_with fail
  refine (newer_any ⟨1, 0, ⟨#[]⟩, []⟩ ⟨0, 0, ⟨#[]⟩, []⟩ none none 0 0 0 0 rfl rfl (by decide) (by decide) _ (Has.nil _ _ _) (Has.nil _ _ _)).mono ?_
  rw [e.out]
  rintro e w1 ⟨rfl, hb1⟩
  go_wp2_with fail
  go_ret
  exact R1.mk rfl hb1

theorem below_drew {B : Nat} {a w : World} (h : Below B a w) : Below B a w.drew := below_drewN h 1
theorem Has.drewA {w : World} {A : Option Addr} {xs : List Value} (h : Has w w.heap.size A xs) : Has w.drew w.drew.heap.size A xs := h
theorem Has.drewB {w : World} {A : Option Addr} {xs : List Value} (h : Has w w.heap.size A xs) (n : Nat) : Has (w.drewN n) (w.drewN n).heap.size A xs := h
theorem keep8 {w W : World} {B g h : Nat} {x0 x1 x2 x3 y0 y1 y2 y3 : Value} (k : Below B w W) (hg : g < B) (hh : h < B) (c0 : w.cell? ⟨g, 0, none⟩ = some x0) (c1 : w.cell? ⟨g, 1, none⟩ = some x1) (c2 : w.cell? ⟨g, 2, none⟩ = some x2) (c3 : w.cell? ⟨g, 3, none⟩ = some x3) (c4 : w.cell? ⟨h, 0, none⟩ = some y0) (c5 : w.cell? ⟨h, 1, none⟩ = some y1) (c6 : w.cell? ⟨h, 2, none⟩ = some y2) (c7 : w.cell? ⟨h, 3, none⟩ = some y3) : W.cell? ⟨g, 0, none⟩ = some x0 ∧ W.cell? ⟨g, 1, none⟩ = some x1 ∧ W.cell? ⟨g, 2, none⟩ = some x2 ∧ W.cell? ⟨g, 3, none⟩ = some x3 ∧ W.cell? ⟨h, 0, none⟩ = some y0 ∧ W.cell? ⟨h, 1, none⟩ = some y1 ∧ W.cell? ⟨h, 2, none⟩ = some y2 ∧ W.cell? ⟨h, 3, none⟩ = some y3 :=
  ⟨(k.cell (p := ⟨g, 0, none⟩) hg).trans c0, (k.cell (p := ⟨g, 1, none⟩) hg).trans c1, (k.cell (p := ⟨g, 2, none⟩) hg).trans c2, (k.cell (p := ⟨g, 3, none⟩) hg).trans c3, (k.cell (p := ⟨h, 0, none⟩) hh).trans c4, (k.cell (p := ⟨h, 1, none⟩) hh).trans c5, (k.cell (p := ⟨h, 2, none⟩) hh).trans c6, (k.cell (p := ⟨h, 3, none⟩) hh).trans c7⟩
theorem Blk.far {w : World} {k : Nat} {t : TypeId} {cs : Array Value} (h : Blk w k t cs) (p : Addr) (u : Value) (hne : p.block ≠ k) : Blk (w.setCell p u) k t cs := (Below.heap_setCell w p u k (fun e => hne (by rw [e]))).trans h
abbrev clA (v s : Int) (a : ByteArray) (x : Row) : Array Value := #[.int .i64 v, .int .i64 s, .string a, .slice x.A x.l.length x.c]

set_option maxRecDepth 1000000 in
set_option maxHeartbeats 8000000 in
theorem claimNewer_true (w : World) (v s : Int) (a : ByteArray) (x : Row) (v' s' : Int) (b : ByteArray) (y : Row) (v'' s'' : Int) (c : ByteArray) (z : Row) (hx : x.ok w) (hy : y.ok w) (hz : z.ok w) :
    Calls Try.prog 8 #[.agg #[.int .i64 v, .int .i64 s, .string a, .slice x.A x.l.length x.c], .agg #[.int .i64 v', .int .i64 s', .string b, .slice y.A y.l.length y.c], .agg #[.int .i64 v'', .int .i64 s'', .string c, .slice z.A z.l.length z.c]] w
      (R1 (.bool true) (Below w.heap.size w)) := by
  obtain ⟨w0, hw0⟩ : ∃ w0, ((w.alloc (.cells #[.int .i64 v, .int .i64 s, .string a, .slice x.A x.l.length x.c] 54)).alloc (.cells #[.int .i64 v', .int .i64 s', .string b, .slice y.A y.l.length y.c] 54)).alloc (.cells #[.int .i64 v'', .int .i64 s'', .string c, .slice z.A z.l.length z.c] 54) = w0 := ⟨_, rfl⟩
  have hb0 : Below w.heap.size w w0 := by rw [← hw0]; exact (two_allocs _ _ _).alloc (by simp; omega) _
  have ka : Blk w0 w.heap.size 54 #[.int .i64 v, .int .i64 s, .string a, .slice x.A x.l.length x.c] := by rw [← hw0]; exact ((Blk.new _ _ _).alloc _).alloc _
  have kb : Blk w0 (w.heap.size + 1) 54 #[.int .i64 v', .int .i64 s', .string b, .slice y.A y.l.length y.c] := by
    rw [← hw0]
    have := (Blk.new (w.alloc (.cells #[.int .i64 v, .int .i64 s, .string a, .slice x.A x.l.length x.c] 54)) 54 #[.int .i64 v', .int .i64 s', .string b, .slice y.A y.l.length y.c]).alloc (.cells #[.int .i64 v'', .int .i64 s'', .string c, .slice z.A z.l.length z.c] 54)
    rwa [show (w.alloc (.cells #[.int .i64 v, .int .i64 s, .string a, .slice x.A x.l.length x.c] 54)).heap.size = w.heap.size + 1 by simp] at this
  have kc : Blk w0 (w.heap.size + 1 + 1) 54 #[.int .i64 v'', .int .i64 s'', .string c, .slice z.A z.l.length z.c] := by
    rw [← hw0]
    have := Blk.new ((w.alloc (.cells #[.int .i64 v, .int .i64 s, .string a, .slice x.A x.l.length x.c] 54)).alloc (.cells #[.int .i64 v', .int .i64 s', .string b, .slice y.A y.l.length y.c] 54)) 54 #[.int .i64 v'', .int .i64 s'', .string c, .slice z.A z.l.length z.c]
    rwa [show ((w.alloc (.cells #[.int .i64 v, .int .i64 s, .string a, .slice x.A x.l.length x.c] 54)).alloc (.cells #[.int .i64 v', .int .i64 s', .string b, .slice y.A y.l.length y.c] 54)).heap.size = w.heap.size + 1 + 1 by simp] at this
  have HW := Lib.hid hw0; clear hw0
  go_enter Try.func8, Try.ntmps8
  go_wp2_with fail
  rw [HW.out]
  refine (claims_true _).mono ?_
  rintro e w1 ⟨rfl, hb1⟩
  have ka := ka.next hb1
  have kb := kb.next hb1
  have kc := kc.next hb1
  have hb1 := bnext hb0 hb1
  have p2 : w1.cell? ⟨w.heap.size, 2, none⟩ = some (.string a) := ka.cell 2
  have q2 : w1.cell? ⟨w.heap.size + 1, 2, none⟩ = some (.string b) := kb.cell 2
  have r2 : w1.cell? ⟨w.heap.size + 1 + 1, 2, none⟩ = some (.string c) := kc.cell 2
  have f2 := kb.frozen 2
  have g2 := kc.frozen 2
  go_wp2_with fail
  have ne1 : ∀ (w' : World) (u : Value), (w'.setCell ⟨w.heap.size + 1, 2, none⟩ u).cell? ⟨w.heap.size, 2, none⟩ = w'.cell? ⟨w.heap.size, 2, none⟩ := fun w' u => World.cell?_setCell_far _ _ _ _ (by simp)
  have ne2 : ∀ (w' : World) (u : Value), (w'.setCell ⟨w.heap.size + 1 + 1, 2, none⟩ u).cell? ⟨w.heap.size, 2, none⟩ = w'.cell? ⟨w.heap.size, 2, none⟩ := fun w' u => World.cell?_setCell_far _ _ _ _ (by simp; omega)
  go_region_held3 (fun w' => w'.cell? ⟨w.heap.size, 2, none⟩ = some (.string a)) (first | exact p2 | (rw [ne1]; exact p2) | (rw [ne2]; exact p2) | (show World.cell? (World.setCell _ _ _) _ = _; rw [ne1]; exact p2) | (show World.cell? (World.setCell _ _ _) _ = _; rw [ne2]; exact p2) | (show World.cell? (World.setCell (World.setCell _ _ _) _ _) _ = _; rw [ne1, ne2]; exact p2) | (show World.cell? (World.setCell (World.setCell _ _ _) _ _) _ = _; rw [ne2, ne1]; exact p2) | go_keep) (fail)
  obtain ⟨w2, hw2⟩ : ∃ w2, ((w1.setCell ⟨w.heap.size + 1, 2, none⟩ (.string a)).setCell ⟨w.heap.size + 1 + 1, 2, none⟩ (.string a)).drew = w2 := ⟨_, rfl⟩
  have hb2 : Below w.heap.size w w2 := by rw [← hw2]; exact below_drewN ((hb1.setCell (by simp) _).setCell (by simp; omega) _) 1
  have ka2 : Blk w2 w.heap.size 54 #[.int .i64 v, .int .i64 s, .string a, .slice x.A x.l.length x.c] := by rw [← hw2]; exact (((ka.far _ _ (by simp)).far _ _ (by simp; omega)).drewN 1)
  have kb2 : Blk w2 (w.heap.size + 1) 54 #[.int .i64 v', .int .i64 s', .string a, .slice y.A y.l.length y.c] := by rw [← hw2]; exact (((kb.set 2 (.string a)).far _ _ (by simp)).drewN 1)
  have kc2 : Blk w2 (w.heap.size + 1 + 1) 54 #[.int .i64 v'', .int .i64 s'', .string a, .slice z.A z.l.length z.c] := by rw [← hw2]; exact (((kc.far _ _ (by simp)).set 2 (.string a)).drewN 1)
  have HW2 := Lib.hid hw2
  rw [hw2]
  clear hw2 HW p2 q2 r2 f2 g2 ne1 ne2
  have p0 : w2.cell? ⟨w.heap.size, 0, none⟩ = some (.int .i64 v) := ka2.cell 0
  have p1 : w2.cell? ⟨w.heap.size, 1, none⟩ = some (.int .i64 s) := ka2.cell 1
  have p2 : w2.cell? ⟨w.heap.size, 2, none⟩ = some (.string a) := ka2.cell 2
  have p3 : w2.cell? ⟨w.heap.size, 3, none⟩ = some (.slice x.A x.l.length x.c) := ka2.cell 3
  have q0 : w2.cell? ⟨w.heap.size + 1, 0, none⟩ = some (.int .i64 v') := kb2.cell 0
  have q1 : w2.cell? ⟨w.heap.size + 1, 1, none⟩ = some (.int .i64 s') := kb2.cell 1
  have q2 : w2.cell? ⟨w.heap.size + 1, 2, none⟩ = some (.string a) := kb2.cell 2
  have q3 : w2.cell? ⟨w.heap.size + 1, 3, none⟩ = some (.slice y.A y.l.length y.c) := kb2.cell 3
  have hX2 : Has w2 w2.heap.size x.A (u64s x.l) := hx.2.2.2.next hb2
  have hY2 : Has w2 w2.heap.size y.A (u64s y.l) := hy.2.2.2.next hb2
  have hlx : x.l.length ≤ maxLen := Nat.le_trans hx.1 hx.2.1
  have hly : y.l.length ≤ maxLen := Nat.le_trans hy.1 hy.2.1
  have hlz : z.l.length ≤ maxLen := Nat.le_trans hz.1 hz.2.1
  have hs2 := kc2.lt
  have hsa : w.heap.size < w2.heap.size := by omega
  have hsb : w.heap.size + 1 < w2.heap.size := by omega
  obtain ⟨X, hX⟩ : ∃ X, newerN ⟨v, s, a, x.l⟩ ⟨v', s', a, y.l⟩ = X := ⟨_, rfl⟩
  obtain ⟨Y, hY⟩ : ∃ Y, newerN ⟨v', s', a, y.l⟩ ⟨v, s, a, x.l⟩ = Y := ⟨_, rfl⟩
  have HX := Lib.hid hX
  have HY := Lib.hid hY
  clear hX hY
  go_wp2_with fail
  go_region_held3 (fun w' => w'.cell? ⟨w.heap.size, 0, none⟩ = some (.int .i64 v) ∧ w'.cell? ⟨w.heap.size, 1, none⟩ = some (.int .i64 s) ∧ w'.cell? ⟨w.heap.size, 2, none⟩ = some (.string a) ∧ w'.cell? ⟨w.heap.size, 3, none⟩ = some (.slice x.A x.l.length x.c) ∧ w'.cell? ⟨w.heap.size + 1, 0, none⟩ = some (.int .i64 v') ∧ w'.cell? ⟨w.heap.size + 1, 1, none⟩ = some (.int .i64 s') ∧ w'.cell? ⟨w.heap.size + 1, 2, none⟩ = some (.string a) ∧ w'.cell? ⟨w.heap.size + 1, 3, none⟩ = some (.slice y.A y.l.length y.c))
    (first | ((refine keep8 (B := w2.heap.size) (w := w2) ?_ hsa hsb p0 p1 p2 p3 q0 q1 q2 q3; (repeat' (first | with_reducible exact hB8 | with_reducible exact hB7 | with_reducible exact Below.refl _ _ | with_reducible refine below_drew ?_ | with_reducible refine below_drewN ?_ _)); done)) | (trace_state; fail))
    (first
      | (have hz7 := hB7; go_at_call 33; refine (newer_any ⟨v', s', a, y.l⟩ ⟨v, s, a, x.l⟩ y.A x.A _ y.c _ x.c rfl rfl hly hlx _ (by first | with_reducible exact hY3 | with_reducible exact Has.drewA hY3 | with_reducible exact Has.drewB hY3 _) (by first | with_reducible exact hX3 | with_reducible exact Has.drewA hX3 | with_reducible exact Has.drewB hX3 _)).mono ?_; rw [HY.out]; rintro e w4 ⟨rfl, hby⟩; have hB8 : Below w2.heap.size w2 w4 := Below.trans (by (repeat' (first | with_reducible exact hB7 | with_reducible refine below_drew ?_ | with_reducible refine below_drewN ?_ _))) (hby.mono hB7.size))
      | (go_at_call 33; refine (newer_any ⟨v, s, a, x.l⟩ ⟨v', s', a, y.l⟩ x.A y.A _ x.c _ y.c rfl rfl hlx hly _ (by first | with_reducible exact hX2 | with_reducible exact Has.drewA hX2 | with_reducible exact Has.drewB hX2 _) (by first | with_reducible exact hY2 | with_reducible exact Has.drewA hY2 | with_reducible exact Has.drewB hY2 _)).mono ?_; rw [HX.out]; rintro e w3 ⟨rfl, hbx⟩; have hB7 : Below w2.heap.size w2 w3 := Below.trans (by (repeat' (first | with_reducible exact Below.refl _ _ | with_reducible refine below_drew ?_ | with_reducible refine below_drewN ?_ _))) (hbx.mono (by simp)); have hX3 := hX2.next hB7; have hY3 := hY2.next hB7; have hsx := hB7.size))
  clear hX3 hY3 hX2 hY2 p0 p1 p2 p3 q0 q1 q2 q3
  have ka4 := ka2.next hB8
  have kb4 := kb2.next hB8
  have kc4 := kc2.next hB8
  have hb4 := bnext hb2 hB8
  have p0 : w4.cell? ⟨w.heap.size, 0, none⟩ = some (.int .i64 v) := ka4.cell 0
  have p1 : w4.cell? ⟨w.heap.size, 1, none⟩ = some (.int .i64 s) := ka4.cell 1
  have p2 : w4.cell? ⟨w.heap.size, 2, none⟩ = some (.string a) := ka4.cell 2
  have p3 : w4.cell? ⟨w.heap.size, 3, none⟩ = some (.slice x.A x.l.length x.c) := ka4.cell 3
  have q0 : w4.cell? ⟨w.heap.size + 1, 0, none⟩ = some (.int .i64 v') := kb4.cell 0
  have q1 : w4.cell? ⟨w.heap.size + 1, 1, none⟩ = some (.int .i64 s') := kb4.cell 1
  have q2 : w4.cell? ⟨w.heap.size + 1, 2, none⟩ = some (.string a) := kb4.cell 2
  have q3 : w4.cell? ⟨w.heap.size + 1, 3, none⟩ = some (.slice y.A y.l.length y.c) := kb4.cell 3
  have r0 : w4.cell? ⟨w.heap.size + 1 + 1, 0, none⟩ = some (.int .i64 v'') := kc4.cell 0
  have r1 : w4.cell? ⟨w.heap.size + 1 + 1, 1, none⟩ = some (.int .i64 s'') := kc4.cell 1
  have r2 : w4.cell? ⟨w.heap.size + 1 + 1, 2, none⟩ = some (.string a) := kc4.cell 2
  have r3 : w4.cell? ⟨w.heap.size + 1 + 1, 3, none⟩ = some (.slice z.A z.l.length z.c) := kc4.cell 3
  have hs4 := kc4.lt
  have hX4 : Has w4 w4.heap.size x.A (u64s x.l) := hx.2.2.2.next hb4
  go_wp2_with fail
  refine (newer_any ⟨v, s, a, x.l⟩ ⟨v, s, a, x.l⟩ x.A x.A _ x.c _ x.c rfl rfl hlx hlx _ hX4 hX4).mono ?_
  rw [newer_self]
  rintro e w5 ⟨rfl, hB5⟩
  clear p0 p1 p2 p3 q0 q1 q2 q3 r0 r1 r2 r3
  have ka5 := ka4.next hB5
  have kb5 := kb4.next hB5
  have kc5 := kc4.next hB5
  have hb5 := bnext hb4 hB5
  have p0 : w5.cell? ⟨w.heap.size, 0, none⟩ = some (.int .i64 v) := ka5.cell 0
  have p1 : w5.cell? ⟨w.heap.size, 1, none⟩ = some (.int .i64 s) := ka5.cell 1
  have p2 : w5.cell? ⟨w.heap.size, 2, none⟩ = some (.string a) := ka5.cell 2
  have p3 : w5.cell? ⟨w.heap.size, 3, none⟩ = some (.slice x.A x.l.length x.c) := ka5.cell 3
  have q0 : w5.cell? ⟨w.heap.size + 1, 0, none⟩ = some (.int .i64 v') := kb5.cell 0
  have q1 : w5.cell? ⟨w.heap.size + 1, 1, none⟩ = some (.int .i64 s') := kb5.cell 1
  have q2 : w5.cell? ⟨w.heap.size + 1, 2, none⟩ = some (.string a) := kb5.cell 2
  have q3 : w5.cell? ⟨w.heap.size + 1, 3, none⟩ = some (.slice y.A y.l.length y.c) := kb5.cell 3
  have r0 : w5.cell? ⟨w.heap.size + 1 + 1, 0, none⟩ = some (.int .i64 v'') := kc5.cell 0
  have r1 : w5.cell? ⟨w.heap.size + 1 + 1, 1, none⟩ = some (.int .i64 s'') := kc5.cell 1
  have r2 : w5.cell? ⟨w.heap.size + 1 + 1, 2, none⟩ = some (.string a) := kc5.cell 2
  have r3 : w5.cell? ⟨w.heap.size + 1 + 1, 3, none⟩ = some (.slice z.A z.l.length z.c) := kc5.cell 3
  have T := Lib.hid (newer_total (a := ⟨v, s, a, x.l⟩) (b := ⟨v', s', a, y.l⟩) rfl)
  have Z := Lib.hid (fun h => newer_asym (a := ⟨v, s, a, x.l⟩) (b := ⟨v', s', a, y.l⟩) h)
  have eS : decide ([(⟨v, s, a, x⟩ : ClE)].map ClE.x = [(⟨v', s', a, y⟩ : ClE)].map ClE.x) = !(X || Y) := by
    have h1 := T.out
    rw [HX.out, HY.out] at h1
    rw [h1, Bool.not_not]
    apply decide_eq_decide.2
    simp [ClE.x]
  have ES := Lib.hid eS; clear eS
  have hs5 : w4.heap.size ≤ w5.heap.size := hB5.size
  have hlt5 : w.heap.size + 1 < w5.heap.size := by omega
  have t0 : ∀ o, (w5.alloc o).cell? ⟨w.heap.size + 1, 0, none⟩ = some (.int .i64 v') := fun o => (World.cell?_alloc_lt _ _ _ hlt5).trans q0
  have t1 : ∀ o, (w5.alloc o).cell? ⟨w.heap.size + 1, 1, none⟩ = some (.int .i64 s') := fun o => (World.cell?_alloc_lt _ _ _ hlt5).trans q1
  have t2 : ∀ o, (w5.alloc o).cell? ⟨w.heap.size + 1, 2, none⟩ = some (.string a) := fun o => (World.cell?_alloc_lt _ _ _ hlt5).trans q2
  have t3 : ∀ o, (w5.alloc o).cell? ⟨w.heap.size + 1, 3, none⟩ = some (.slice y.A y.l.length y.c) := fun o => (World.cell?_alloc_lt _ _ _ hlt5).trans q3
  rcases X with _ | _
  · rcases Y with _ | _
    all_goals
      go_wp2_with fail
      refine (sameClaims_any _ _ 1 1 1 1 [⟨v, s, a, x⟩] [⟨v', s', a, y⟩] rfl rfl (by decide) (by decide) _ ?k1 ?k2 ?k3 ?k4).mono ?_
      case k1 => exact (has_new _ _ _ rfl).next (one_alloc _ _)
      case k2 => exact has_new _ _ _ (by simp)
      case k3 => intro e he; rw [List.mem_singleton] at he; subst he; exact (hx.next hb5).next (two_allocs _ _ _)
      case k4 => intro e he; rw [List.mem_singleton] at he; subst he; exact (hy.next hb5).next (two_allocs _ _ _)
      rw [ES.out]
      rintro e w6 ⟨rfl, hB6⟩
      go_wp2_with fail
      go_ret
      exact R1.mk rfl (bnext hb5 (bnext (two_allocs _ _ _) hB6))
  · have hY := Z.out HX.out
    rw [HY.out] at hY
    subst hY
    go_wp2_with fail
    refine (sameClaims_any _ _ 1 1 1 1 [⟨v, s, a, x⟩] [⟨v', s', a, y⟩] rfl rfl (by decide) (by decide) _ ?k1 ?k2 ?k3 ?k4).mono ?_
    case k1 => exact (has_new _ _ _ rfl).next (one_alloc _ _)
    case k2 => exact has_new _ _ _ (by simp)
    case k3 => intro e he; rw [List.mem_singleton] at he; subst he; exact (hx.next hb5).next (two_allocs _ _ _)
    case k4 => intro e he; rw [List.mem_singleton] at he; subst he; exact (hy.next hb5).next (two_allocs _ _ _)
    rw [ES.out]
    rintro e w6 ⟨rfl, hB6'⟩
    have hB6 := bnext (two_allocs _ _ _) hB6'
    clear p0 p1 p2 p3 q0 q1 q2 q3 r0 r1 r2 r3
    have ka6 := ka5.next hB6
    have kb6 := kb5.next hB6
    have kc6 := kc5.next hB6
    have hb6 := bnext hb5 hB6
    have p0 : w6.cell? ⟨w.heap.size, 0, none⟩ = some (.int .i64 v) := ka6.cell 0
    have p1 : w6.cell? ⟨w.heap.size, 1, none⟩ = some (.int .i64 s) := ka6.cell 1
    have p2 : w6.cell? ⟨w.heap.size, 2, none⟩ = some (.string a) := ka6.cell 2
    have p3 : w6.cell? ⟨w.heap.size, 3, none⟩ = some (.slice x.A x.l.length x.c) := ka6.cell 3
    have q0 : w6.cell? ⟨w.heap.size + 1, 0, none⟩ = some (.int .i64 v') := kb6.cell 0
    have q1 : w6.cell? ⟨w.heap.size + 1, 1, none⟩ = some (.int .i64 s') := kb6.cell 1
    have q2 : w6.cell? ⟨w.heap.size + 1, 2, none⟩ = some (.string a) := kb6.cell 2
    have q3 : w6.cell? ⟨w.heap.size + 1, 3, none⟩ = some (.slice y.A y.l.length y.c) := kb6.cell 3
    have r0 : w6.cell? ⟨w.heap.size + 1 + 1, 0, none⟩ = some (.int .i64 v'') := kc6.cell 0
    have r1 : w6.cell? ⟨w.heap.size + 1 + 1, 1, none⟩ = some (.int .i64 s'') := kc6.cell 1
    have r2 : w6.cell? ⟨w.heap.size + 1 + 1, 2, none⟩ = some (.string a) := kc6.cell 2
    have r3 : w6.cell? ⟨w.heap.size + 1 + 1, 3, none⟩ = some (.slice z.A z.l.length z.c) := kc6.cell 3
    obtain ⟨W, hW⟩ : ∃ W, newerN ⟨v', s', a, y.l⟩ ⟨v'', s'', a, z.l⟩ = W := ⟨_, rfl⟩
    have HW3 := Lib.hid hW; clear hW
    go_wp2_with fail
    refine (newer_any ⟨v', s', a, y.l⟩ ⟨v'', s'', a, z.l⟩ y.A z.A _ y.c _ z.c rfl rfl hly hlz _ (hy.2.2.2.next hb6) (hz.2.2.2.next hb6)).mono ?_
    rw [HW3.out]
    rintro e w7 ⟨rfl, hB7'⟩
    clear p0 p1 p2 p3 q0 q1 q2 q3 r0 r1 r2 r3
    have ka7 := ka6.next hB7'
    have kb7 := kb6.next hB7'
    have kc7 := kc6.next hB7'
    have hb7 := bnext hb6 hB7'
    have p0 : w7.cell? ⟨w.heap.size, 0, none⟩ = some (.int .i64 v) := ka7.cell 0
    have p1 : w7.cell? ⟨w.heap.size, 1, none⟩ = some (.int .i64 s) := ka7.cell 1
    have p2 : w7.cell? ⟨w.heap.size, 2, none⟩ = some (.string a) := ka7.cell 2
    have p3 : w7.cell? ⟨w.heap.size, 3, none⟩ = some (.slice x.A x.l.length x.c) := ka7.cell 3
    have q0 : w7.cell? ⟨w.heap.size + 1, 0, none⟩ = some (.int .i64 v') := kb7.cell 0
    have q1 : w7.cell? ⟨w.heap.size + 1, 1, none⟩ = some (.int .i64 s') := kb7.cell 1
    have q2 : w7.cell? ⟨w.heap.size + 1, 2, none⟩ = some (.string a) := kb7.cell 2
    have q3 : w7.cell? ⟨w.heap.size + 1, 3, none⟩ = some (.slice y.A y.l.length y.c) := kb7.cell 3
    have r0 : w7.cell? ⟨w.heap.size + 1 + 1, 0, none⟩ = some (.int .i64 v'') := kc7.cell 0
    have r1 : w7.cell? ⟨w.heap.size + 1 + 1, 1, none⟩ = some (.int .i64 s'') := kc7.cell 1
    have r2 : w7.cell? ⟨w.heap.size + 1 + 1, 2, none⟩ = some (.string a) := kc7.cell 2
    have r3 : w7.cell? ⟨w.heap.size + 1 + 1, 3, none⟩ = some (.slice z.A z.l.length z.c) := kc7.cell 3
    rcases W with _ | _
    · go_wp2_with fail
      go_ret
      exact R1.mk rfl hb7
    · have HT := Lib.hid (newer_trans HX.out HW3.out)
      go_wp2_with fail
      refine (newer_any ⟨v, s, a, x.l⟩ ⟨v'', s'', a, z.l⟩ x.A z.A _ x.c _ z.c rfl rfl hlx hlz _ (hx.2.2.2.next hb7) (hz.2.2.2.next hb7)).mono ?_
      rw [HT.out]
      rintro e w8 ⟨rfl, hB8'⟩
      go_wp2_with fail
      go_ret
      exact R1.mk rfl (bnext hb7 hB8')
theorem claimNewer_at (w : World) (v s : Int) (a : ByteArray) (x : Row) (hx : (⟨v, s, a, x⟩ : ClE).good w) (v' s' : Int) (b : ByteArray) (y : Row) (hy : (⟨v', s', b, y⟩ : ClE).good w) (v'' s'' : Int) (c : ByteArray) (z : Row) (hz : (⟨v'', s'', c, z⟩ : ClE).good w) :
    Calls Try.prog 8 #[.agg #[.int .i64 v, .int .i64 s, .string a, .slice x.A x.l.length x.c], .agg #[.int .i64 v', .int .i64 s', .string b, .slice y.A y.l.length y.c], .agg #[.int .i64 v'', .int .i64 s'', .string c, .slice z.A z.l.length z.c]] w
      (R1 (.bool true) (Below w.heap.size w)) :=
  claimNewer_true w v s a x v' s' b y v'' s'' c z hx.1 hy.1 hz.1
end Go.Proofs.Ytkkadfjcnocopaa
