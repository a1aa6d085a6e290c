/- Where a number stands in a rising row: plain laws. -/
import Derived.Test.YtmfndpkhcejffaaHandLaw
namespace Go.Proofs.Ytmfndpkhcejffaa
open Go.RowKit

def PlaceI (l : List Int) (x : Int) (i : Nat) : Prop := i ≤ l.length ∧ (∀ j, j < i → at_ l j < x) ∧ (i < l.length → ¬ at_ l i < x)
theorem PlaceI.ins {l : List Int} {x : Int} {i : Nat} (h : PlaceI l x i) : insI l x = l.take i ++ x :: l.drop i := insI_at x h.1 h.2.1 h.2.2
theorem PlaceI.mem {l : List Int} (hu : UpI l) {x : Int} {i : Nat} (h : PlaceI l x i) : x ∈ l ↔ i < l.length ∧ at_ l i = x := by
  obtain ⟨h1, h2, h3⟩ := h
  constructor
  · intro hx
    obtain ⟨q, hq, rfl⟩ := List.getElem_of_mem hx
    rw [← at_eq hq] at h2 h3 ⊢
    rcases Nat.lt_trichotomy q i with g | g | g
    · have := h2 q g; omega
    · subst g; exact ⟨hq, rfl⟩
    · exact absurd (at_UpI hu g hq) (h3 (by omega))
  · rintro ⟨g1, rfl⟩; exact at_mem g1

end Go.Proofs.Ytmfndpkhcejffaa
