/- No claim is merged away but for a newer one: the plain law. No program in sight. -/
import Derived.Test.YtokilodekbjpnaaClaimLaw
namespace Go.Proofs.Ytokilodekbjpnaa
open Go.RowKit

theorem upper_law {a b : List Clm} (ua : UpC a) (ub : UpC b) {c : Clm} (hc : c ∈ a ∨ c ∈ b) : ∃ d, lookC (mergeC a b) c.nm = some d ∧ newerN c d = false := by
  rw [lookC_merge a b ua ub]
  rcases hc with hc | hc
  · rw [lookC_at ua hc]
    cases lookC b c.nm with
    | none => exact ⟨c, rfl, newer_self c⟩
    | some y => exact ⟨newest c y, rfl, newest_left c y⟩
  · rw [lookC_at ub hc]
    cases lookC a c.nm with
    | none => exact ⟨c, rfl, newer_self c⟩
    | some x => exact ⟨newest x c, rfl, newest_right x c⟩
end Go.Proofs.Ytokilodekbjpnaa
