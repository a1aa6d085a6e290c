/- What rates of package gaugehousekeep returns: true. No conditions. -/
import Derived.Test.YtcokpfjhlclnmaaTwo
import Derived.Test.YtcokpfjhlclnmaaGrown
namespace Go.Proofs.Ytcokpfjhlclnmaa
open Go.RowKit

set_option maxRecDepth 1000000 in
set_option maxHeartbeats 400000 in
theorem rates_true (w : World) : Calls Try.prog 37 #[] w (R1 (.bool true) (Below w.heap.size w)) := by
  have e0 : Hid (grN twoS = (3, 0, 0)) := Lib.hid (by decide +kernel)
  go_enter Try.func37, Try.ntmps37
  go_wp2_with fail
  refine (two_any _).mono ?_
  rintro e w1 ⟨v, rfl, A, rfl, h1, hb1⟩
  go_wp2_with fail
  refine (grown_any A 2 twoS twoS_ok (by decide) _ h1).mono ?_
  rintro e w2 ⟨rfl, hb2⟩
  rw [e0.out, R3i]
  go_wp2_with fail
  go_ret
  exact R1.mk rfl (bnext hb1 hb2)

end Go.Proofs.Ytcokpfjhlclnmaa
