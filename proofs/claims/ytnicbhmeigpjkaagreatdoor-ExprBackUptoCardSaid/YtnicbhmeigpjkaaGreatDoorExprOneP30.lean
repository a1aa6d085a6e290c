/- Texts of the proof of ExprOne, joined (by merge.py). Conditions: each theorem's own hypotheses. -/
import Derived.Test.YtnicbhmeigpjkaaGreatDoorExprOneP2
import Derived.Test.YtnicbhmeigpjkaaGreatDoorExprOneP19
import Derived.Sort.Grow
import Derived.Shelf.SlSortCmp.InsertionK
namespace Go.Proofs.YtnicbhmeigpjkaaGreatDoor
open Go.RowKit Go.Sort

theorem compareBytes_lt : ∀ a b : List UInt8, Lib.compareBytes a b < 0 ↔ a < b
  | [], [] => by simp [Lib.compareBytes]
  | [], b :: br => by simp [Lib.compareBytes]
  | a :: ar, [] => by simp [Lib.compareBytes]
  | a :: ar, b :: br => by
    unfold Lib.compareBytes
    rw [List.cons_lt_cons_iff]
    by_cases h1 : a < b
    · rw [if_pos h1]
      exact ⟨fun _ => .inl h1, fun _ => by decide⟩
    · rw [if_neg h1]
      by_cases h2 : b < a
      · rw [if_pos h2]
        refine ⟨fun h => absurd h (by decide), ?_⟩
        rintro (h | ⟨h, _⟩)
        · exact absurd h h1
        · rw [h] at h2; exact absurd h2 (UInt8.lt_irrefl _)
      · rw [if_neg h2, compareBytes_lt ar br]
        have e : a = b := UInt8.le_antisymm (UInt8.not_lt.1 h2) (UInt8.not_lt.1 h1)
        exact ⟨fun h => .inr ⟨e, h⟩, fun h => h.elim (fun h => absurd h h1) (fun h => h.2)⟩
def keyB (x : RowE) : List UInt8 := kB x.r
def cfR (x y : RowE) : Int := Lib.compareBytes (keyB x) (keyB y)
theorem ltR (x y : RowE) : ltOf cfR x y = decide (keyB x < keyB y) := by
  unfold ltOf cfR
  rw [decide_eq_decide]
  exact compareBytes_lt _ _
theorem swoR : SWO (ltOf cfR) where
  irrefl x := by rw [ltR, decide_eq_false_iff_not]; exact List.lt_irrefl _
  trans x y z h1 h2 := by rw [ltR, decide_eq_true_eq] at *; exact List.lt_trans h1 h2
  ntrans x y z h1 h2 := by
    rw [ltR, decide_eq_false_iff_not] at *
    exact List.not_lt.2 (List.le_trans (List.not_lt.1 h2) (List.not_lt.1 h1))
def CmpWR (W W' : World) : Prop := ∃ q os', W' = grow (W.drewN q) os'
set_option maxRecDepth 100000 in
theorem eval1_any (x y : RowE) (W : World) : Calls Tryz.prog 56 #[.agg (rowC x).toArray, .agg (rowC y).toArray] W (R1 (.int .i64 (cfR x y)) (CmpWR W)) := by
  have hx : (rowC x).toArray = #[.string (txK x.r.1), .slice x.A x.r.1.length x.c, .int .i64 x.r.2] := rfl
  have hy : (rowC y).toArray = #[.string (txK y.r.1), .slice y.A y.r.1.length y.c, .int .i64 y.r.2] := rfl
  rw [hx, hy]
  obtain ⟨xk, hxk⟩ : ∃ k, txK x.r.1 = k := ⟨_, rfl⟩
  obtain ⟨yk, hyk⟩ : ∃ k, txK y.r.1 = k := ⟨_, rfl⟩
  obtain ⟨xn, hxn⟩ : ∃ k, x.r.1.length = k := ⟨_, rfl⟩
  obtain ⟨yn, hyn⟩ : ∃ k, y.r.1.length = k := ⟨_, rfl⟩
  have hcf : cfR x y = Lib.compareBytes xk.data.toList yk.data.toList := by unfold cfR keyB kB; rw [hxk, hyk]
  obtain ⟨r, hr⟩ : ∃ r, Lib.compareBytes xk.data.toList yk.data.toList = r := ⟨_, rfl⟩
  have HC := fun w : World => Tryz.strings_Compare xk yk w
  simp only [hr] at HC
  have HC := Lib.hid HC
  rw [hxk, hyk, hxn, hyn, hcf, hr]
  obtain ⟨w0, hw0⟩ : ∃ w0, (W.alloc (.cells #[.string xk, .slice x.A xn x.c, .int .i64 x.r.2] 72)).alloc (.cells #[.string yk, .slice y.A yn y.c, .int .i64 y.r.2] 72) = w0 := ⟨_, rfl⟩
  have ka : Blk w0 W.heap.size 72 #[.string xk, .slice x.A xn x.c, .int .i64 x.r.2] := by rw [← hw0]; exact (Blk.new _ _ _).alloc _
  have kb : Blk w0 (W.heap.size + 1) 72 #[.string yk, .slice y.A yn y.c, .int .i64 y.r.2] := by
    rw [← hw0]
    have h1 := Blk.new (W.alloc (.cells #[.string xk, .slice x.A xn x.c, .int .i64 x.r.2] 72)) 72 #[.string yk, .slice y.A yn y.c, .int .i64 y.r.2]
    rw [World.size_alloc] at h1
    exact h1
  have p0 : w0.cell? ⟨W.heap.size, 0, none⟩ = some (.string xk) := ka.cell 0
  have q0 : w0.cell? ⟨W.heap.size + 1, 0, none⟩ = some (.string yk) := kb.cell 0
  have HW := Lib.hid hw0
  clear hw0 hxk hyk hxn hyn hcf hr hx hy ka kb
  go_enter Tryz.func56, Tryz.ntmps56
  go_upto_region 1 with fail
  rw [HW.out]
  go_wp2_with fail
  refine (HC.out _).mono ?_
  rintro e w' ⟨rfl, rfl⟩
  go_wp2_with fail
  go_ret
  refine R1.mk rfl ⟨0, #[.cells #[.string xk, .slice x.A xn x.c, .int .i64 x.r.2] 72] ++ #[.cells #[.string yk, .slice y.A yn y.c, .int .i64 y.r.2] 72], ?_⟩
  rw [← HW.out, alloc_eq_grow, alloc_eq_grow, grow_grow]
  rfl
end Go.Proofs.YtnicbhmeigpjkaaGreatDoor
