/- What cmp.Less of int64 tells. Conditions: none beyond each theorem's own hypotheses. -/
import Derived.Test.YthofijhjbaaokaaI64s
namespace Go.Proofs.Ythofijhjbaaokaa
open Go.RowKit

set_option maxRecDepth 1000000 in
theorem isNaN_any (x : Int) (w : World) : Calls Try.prog 80 #[.int .i64 x] w (R1 (.bool false) (fun w' => w' = w)) := by
  have e : (x != x) = false := by simp
  go_enter Try.func80, Try.ntmps80
  go_wp2_with fail
  go_ret
  exact R1.mk (by simp) rfl
set_option maxRecDepth 1000000 in
theorem less_any (x y : Int) (w : World) : Calls Try.prog 69 #[.int .i64 x, .int .i64 y] w (R1 (.bool (decide (x < y))) (fun w' => w' = w)) := by
  go_enter Try.func69, Try.ntmps69
  go_wp2_with fail
  refine (isNaN_any _ _).mono ?_
  rintro e w1 ⟨rfl, rfl⟩
  go_wp2_with fail
  go_ret
  exact R1.mk rfl rfl
theorem drawn_more {w w' : World} (h : Drawn w w') (n : Nat) : Drawn w (w'.drewN n) := by obtain ⟨m, rfl⟩ := h; exact Drawn.two _ _ _
end Go.Proofs.Ythofijhjbaaokaa
