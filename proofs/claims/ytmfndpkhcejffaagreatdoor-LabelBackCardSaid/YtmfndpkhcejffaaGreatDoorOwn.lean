/- Small plain laws on rows of a call's own. Conditions: none beyond each theorem's own hypotheses. -/
import Derived.Test.YtmfndpkhcejffaaGreatDoorKit
namespace Go.Proofs.YtmfndpkhcejffaaGreatDoor
open Go.RowKit

theorem own_len {w : World} {base size n c : Nat} {e : TypeId} {A : Option Addr} {xs : List Value} (h : w.ownsRow base e size (.slice A n c) n xs) : n ≤ c ∧ c ≤ maxLen := by
  obtain ⟨A', c', e1, h2, h3, _, _⟩ := own_form h
  injection e1 with _ _ e3
  subst e3
  exact ⟨h2, h3⟩
end Go.Proofs.YtmfndpkhcejffaaGreatDoor
