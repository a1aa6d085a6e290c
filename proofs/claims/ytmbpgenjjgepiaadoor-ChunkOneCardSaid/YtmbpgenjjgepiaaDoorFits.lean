/- What fits of package delta answers. Conditions: the width is one of the table's. -/
import Derived.Test.YtmbpgenjjgepiaaDoorDeltaLaw
namespace Go.Proofs.YtmbpgenjjgepiaaDoor
open Go.RowKit

set_option maxRecDepth 1000000 in
set_option maxHeartbeats 1000000 in
theorem fits0_any (c : Int) (w : World) : Calls Tryd.prog 24 #[.int .i64 c, .int .i64 0] w (R1 (.bool (c == 0)) (fun w' => w' = w)) := by
  go_enter Tryd.func24, Tryd.ntmps24
  go_wp2
  go_ret
  exact R1.mk rfl rfl
set_option maxRecDepth 1000000 in
set_option maxHeartbeats 1000000 in
theorem fits7_any (c : Int) (hc : -9223372036854775808 ≤ c ∧ c ≤ 9223372036854775807) (w : World) : Calls Tryd.prog 24 #[.int .i64 c, .int .i64 7] w (R1 (.bool (decide (-64 ≤ c ∧ c < 64))) (fun w' => w' = w)) := by
  go_enter Tryd.func24, Tryd.ntmps24
  go_wp2
  go_ret
  exact R1.mk (bool_eq (by rw [Bool.eq_iff_iff]; simp only [beq_iff_eq, decide_eq_true_iff]; unfold wrap64; omega)) rfl
set_option maxRecDepth 1000000 in
set_option maxHeartbeats 1000000 in
theorem fits9_any (c : Int) (hc : -9223372036854775808 ≤ c ∧ c ≤ 9223372036854775807) (w : World) : Calls Tryd.prog 24 #[.int .i64 c, .int .i64 9] w (R1 (.bool (decide (-256 ≤ c ∧ c < 256))) (fun w' => w' = w)) := by
  go_enter Tryd.func24, Tryd.ntmps24
  go_wp2
  go_ret
  exact R1.mk (bool_eq (by rw [Bool.eq_iff_iff]; simp only [beq_iff_eq, decide_eq_true_iff]; unfold wrap64; omega)) rfl
set_option maxRecDepth 1000000 in
set_option maxHeartbeats 1000000 in
theorem fits12_any (c : Int) (hc : -9223372036854775808 ≤ c ∧ c ≤ 9223372036854775807) (w : World) : Calls Tryd.prog 24 #[.int .i64 c, .int .i64 12] w (R1 (.bool (decide (-2048 ≤ c ∧ c < 2048))) (fun w' => w' = w)) := by
  go_enter Tryd.func24, Tryd.ntmps24
  go_wp2
  go_ret
  exact R1.mk (bool_eq (by rw [Bool.eq_iff_iff]; simp only [beq_iff_eq, decide_eq_true_iff]; unfold wrap64; omega)) rfl
set_option maxRecDepth 1000000 in
set_option maxHeartbeats 1000000 in
theorem fits64_any (c : Int) (hc : -9223372036854775808 ≤ c ∧ c ≤ 9223372036854775807) (w : World) : Calls Tryd.prog 24 #[.int .i64 c, .int .i64 64] w (R1 (.bool true) (fun w' => w' = w)) := by
  go_enter Tryd.func24, Tryd.ntmps24
  go_wp2
  go_ret
  exact R1.mk (by first | rfl | exact bool_eq (by simp)) rfl
end Go.Proofs.YtmbpgenjjgepiaaDoor
