/- What chunks of package gaugehousekeep answers. No conditions. -/
import Derived.Test.YtmbpgenjjgepiaaDoorRange
import Derived.Test.YtmbpgenjjgepiaaDoorTwo
namespace Go.Proofs.YtmbpgenjjgepiaaDoor
open Go.RowKit

set_option maxRecDepth 1000000 in
set_option maxHeartbeats 400000 in
theorem chunks_true (w : World) : Calls Tryd.prog 5 #[] w (R1 (.bool true) (Below w.heap.size w)) := by
  have e0 : Hid ((rangeN twoS 1 2).length = 1) := Lib.hid (by decide +kernel)
  have e1 : Hid (chkS twoS = 0) := Lib.hid (by decide +kernel)
  go_enter Tryd.func5, Tryd.ntmps5
  go_wp2_with fail
  refine (two_any _).mono ?_
  rintro e w1 ⟨v, rfl, A, rfl, h1, hb1⟩
  go_wp2_with fail
  refine (range_any A 2 twoS (by decide) (by decide) 1 2 _ h1).mono ?_
  rintro e w2 ⟨v, rfl, A2, c2, rfl, hown, hb2⟩
  rw [e0.out, e1.out]
  go_wp2_with fail
  go_ret
  exact R1.mk rfl (bnext hb1 hb2)

end Go.Proofs.YtmbpgenjjgepiaaDoor
