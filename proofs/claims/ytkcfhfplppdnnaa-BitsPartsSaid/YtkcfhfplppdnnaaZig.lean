/- What Zig of package bits computes. Conditions: numbers fit their kinds. -/
import Derived.Test.YtkcfhfplppdnnaaNum
namespace Go.Proofs.Ytkcfhfplppdnnaa
open Go.RowKit

set_option maxRecDepth 1000000 in
set_option maxHeartbeats 400000 in
theorem zig_any (n : Int) (h : -9223372036854775808 ≤ n ∧ n ≤ 9223372036854775807) (w : World) :
    Calls Try.prog 52 #[.int .i64 n] w (R1 (.int .u64 (zigN n : Nat)) (Drawn w)) := by
  go_enter Try.func52, Try.ntmps52
  go_wp2
  go_ret
  exact R1.mk (int_eq (zig_eq h)) (Drawn.refl _)

end Go.Proofs.Ytkcfhfplppdnnaa
