/- What Zag of package bits computes. Conditions: numbers fit their kinds. -/
import Derived.Test.YtdoinkflhjnflaaNum
namespace Go.Proofs.Ytdoinkflhjnflaa
open Go.RowKit
set_option maxRecDepth 1000000 in
set_option maxHeartbeats 400000 in
theorem zag_any (u : Nat) (h : u < 18446744073709551616) (w : World) :
    Calls Try.prog 23 #[.int .u64 u] w (R1 (.int .i64 (zagN u)) (Drawn w)) := by
  go_enter Try.func23, Try.ntmps23
  go_wp2
  go_ret
  exact R1.mk (int_eq (zag_eq h)) (Drawn.refl _)
end Go.Proofs.Ytdoinkflhjnflaa
