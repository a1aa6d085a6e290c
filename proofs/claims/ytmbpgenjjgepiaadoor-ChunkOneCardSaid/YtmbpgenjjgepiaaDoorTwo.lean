/- The two laid samples of package gaugehousekeep and the call that gives them. No conditions. -/
import Derived.Test.YtmbpgenjjgepiaaDoorKit
import Derived.Test.YtmbpgenjjgepiaaDoorOpen
namespace Go.Proofs.YtmbpgenjjgepiaaDoor
open Go.RowKit

def twoS : List Smp := [⟨1, 5⟩, ⟨3, 8⟩]
theorem twoS_ok : Smps twoS := by
  intro s hs
  simp only [twoS, List.mem_cons, List.not_mem_nil, or_false] at hs
  rcases hs with rfl | rfl <;> exact ⟨⟨by decide, by decide⟩, by decide, by decide⟩

set_option maxRecDepth 1000000 in
set_option maxHeartbeats 400000 in
theorem two_any (w : World) : Calls Tryd.prog 11 #[] w (RV fun v w' => ∃ A, v = .slice A 2 2 ∧ Has w' w'.heap.size A (smpCs twoS) ∧ Below w.heap.size w w') := by
  go_enter Tryd.func11, Tryd.ntmps11
  go_wp2
  go_ret
  exact RV.mk ⟨some ⟨w.heap.size, 0, none⟩, rfl, Has.fresh w #[.int .i64 1, .int .i64 5, .int .i64 3, .int .i64 8] _, (Below.refl _ _).alloc (Nat.le_refl _) _⟩

end Go.Proofs.YtmbpgenjjgepiaaDoor
