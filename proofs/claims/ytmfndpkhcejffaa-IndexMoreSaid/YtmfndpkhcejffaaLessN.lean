/- What cmp.Less of int tells. Conditions: none beyond each theorem's own hypotheses. -/
import Derived.Test.YtmfndpkhcejffaaI64s
namespace Go.Proofs.Ytmfndpkhcejffaa
open Go.RowKit

set_option maxRecDepth 1000000 in
theorem isNaNN_any (x : Int) (w : World) : Calls Try.prog 48 #[.int .i64 x] w (R1 (.bool false) (fun w' => w' = w)) := by
  have e : (x != x) = false := by simp
  go_enter Try.func48, Try.ntmps48
  go_wp2_with fail
  go_ret
  exact R1.mk (by simp) rfl
set_option maxRecDepth 1000000 in
theorem lessN_any (x y : Int) (w : World) : Calls Try.prog 33 #[.int .i64 x, .int .i64 y] w (R1 (.bool (decide (x < y))) (fun w' => w' = w)) := by
  go_enter Try.func33, Try.ntmps33
  go_wp2_with fail
  refine (isNaNN_any _ _).mono ?_
  rintro e w1 ⟨rfl, rfl⟩
  go_wp2_with fail
  go_ret
  exact R1.mk rfl rfl
theorem drawn_moreN {w w' : World} (h : Drawn w w') (n : Nat) : Drawn w (w'.drewN n) := by obtain ⟨m, rfl⟩ := h; exact Drawn.two _ _ _
end Go.Proofs.Ytmfndpkhcejffaa
