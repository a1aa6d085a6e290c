/- Cells of a row of the call's own: its front, what lies behind its end. Conditions: none beyond each theorem's own hypotheses. -/
import Derived.Test.YtmfndpkhcejffaaOwn
import Derived.OwnWalk
import Derived.Lib.SliceRun
import Derived.Laws.OwnMore
namespace Go.Proofs.Ytmfndpkhcejffaa
open Go.RowKit

/-- the front of an own row is one -/
theorem own_front {w : World} {base size n c g k : Nat} {e : TypeId} {xs : List Value} (h : w.ownsRow base e size (.slice (some ⟨g, 0, none⟩) n c) n xs) (hk : k ≤ n) : w.ownsRow base e size (.slice (some ⟨g, 0, none⟩) k c) k (xs.take (k * size)) := by
  obtain ⟨h0, h⟩ := h
  rcases h with ⟨h, _⟩ | ⟨g', cap, cur, ev, hb, hg, h1, h2, h3, h4⟩
  · cases h
  · injection ev with e1 _ e3
    injection e1 with e1
    injection e1 with e1 _ _
    subst e1 e3
    have hks : k * size ≤ n * size := Nat.mul_le_mul_right _ hk
    refine ⟨by rw [List.length_take]; omega, .inr ⟨g, c, cur, rfl, hb, hg, by omega, h2, h3, ?_⟩⟩
    rw [← h4, List.take_take, Nat.min_eq_left hks]
/-- a cell behind the row's end -/
theorem own_behind {w : World} {base size n c g k : Nat} {e : TypeId} {xs : List Value} (h : w.ownsRow base e size (.slice (some ⟨g, 0, none⟩) n c) n xs) (hk : n * size ≤ k) (u : Value) : (w.setCell ⟨g, k, none⟩ u).ownsRow base e size (.slice (some ⟨g, 0, none⟩) n c) n xs := by
  obtain ⟨h0, h⟩ := h
  rcases h with ⟨h, _⟩ | ⟨g', cap, cur, ev, hb, hg, h1, h2, h3, h4⟩
  · cases h
  · injection ev with e1 _ e3
    injection e1 with e1
    injection e1 with e1 _ _
    subst e1 e3
    refine ⟨h0, .inr ⟨g, c, cur.setIfInBounds k u, rfl, hb, ?_, h1, h2, by simpa using h3, ?_⟩⟩
    · have hb2 : Blk w g e cur := hg
      exact hb2.set k u
    · rw [Array.toList_setIfInBounds, List.take_set_of_le (by omega)]
      exact h4
/-- the cells behind the row's end are there, and not frozen -/
theorem own_room {w : World} {base size n c g k : Nat} {e : TypeId} {xs : List Value} (h : w.ownsRow base e size (.slice (some ⟨g, 0, none⟩) n c) n xs) (hk : k < c * size) : (∃ u, w.cell? ⟨g, k, none⟩ = some u) ∧ w.frozen? ⟨g, k, none⟩ = false := by
  obtain ⟨_, h⟩ := h
  rcases h with ⟨h, _⟩ | ⟨g', cap, cur, ev, hb, hg, h1, h2, h3, h4⟩
  · cases h
  · injection ev with e1 _ e3
    injection e1 with e1
    injection e1 with e1 _ _
    subst e1 e3
    have hb2 : Blk w g e cur := hg
    exact ⟨⟨cur[k]'(by omega), by rw [hb2.cell k]; simp⟩, hb2.frozen k⟩
/-- cells behind the row's end, many -/
theorem own_behinds {base size n c g : Nat} {e : TypeId} {xs : List Value} : ∀ (vs : List Value) (o : Nat) (w : World), w.ownsRow base e size (.slice (some ⟨g, 0, none⟩) n c) n xs → n * size ≤ o → (w.setCells g o vs).ownsRow base e size (.slice (some ⟨g, 0, none⟩) n c) n xs
  | [], _, _, h, _ => h
  | v :: r, o, _, h, ho => own_behinds r (o + 1) _ (own_behind h ho v) (by omega)
theorem below_setCells {B : Nat} {a : World} {g : Nat} (hg : B ≤ g) : ∀ (vs : List Value) (o : Nat) (w : World), Below B a w → Below B a (w.setCells g o vs)
  | [], _, _, h => h
  | v :: r, o, w, h => below_setCells hg r (o + 1) _ (h.setCell hg v)
theorem only_setCells {g : Nat} {a : World} : ∀ (vs : List Value) (o : Nat) (w : World), Only g a w → Only g a (w.setCells g o vs)
  | [], _, _, h => h
  | v :: r, o, w, h => only_setCells r (o + 1) _ (h.set o v)
end Go.Proofs.Ytmfndpkhcejffaa
