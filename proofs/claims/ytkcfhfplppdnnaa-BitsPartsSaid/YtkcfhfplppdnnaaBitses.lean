/- The check of package constants that the laws of bits begin with: it returns true. Conditions: none. -/
import Derived.Test.YtkcfhfplppdnnaaBits
import Derived.Test.YtkcfhfplppdnnaaZig
namespace Go.Proofs.Ytkcfhfplppdnnaa
open Go.RowKit

set_option maxRecDepth 1000000 in
set_option maxHeartbeats 400000 in
theorem bitses_true (w : World) : Calls Try.prog 28 #[] w (R1 (.bool true) (Below w.heap.size w)) := by
  have e5 : Hid ((putL 5).length = 1) := Lib.hid (by rw [putL_small (by decide)]; rfl)
  go_enter Try.func28, Try.ntmps28
  go_wp2_with fail
  refine (put_any 5 (by omega) _).mono ?_
  rintro e w1 ⟨v, rfl, A, c, rfl, hown, hbel⟩
  rw [e5.out]
  go_wp2_with fail
  refine (zig_any (-1) (by omega) _).mono ?_
  rintro e w2 ⟨rfl, n1, rfl⟩
  rw [show zigN (-1) = 1 from by decide]
  go_wp2_with fail
  go_ret
  exact R1.mk rfl (below_drewN hbel _)

end Go.Proofs.Ytkcfhfplppdnnaa
