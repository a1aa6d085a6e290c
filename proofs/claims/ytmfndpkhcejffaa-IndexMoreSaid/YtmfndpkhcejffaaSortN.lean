/- What slices.Sort makes of a row of int of the call's own. Conditions: the row is a block of its own. -/
import Derived.Test.YtmfndpkhcejffaaShN
import Derived.Test.YtmfndpkhcejffaaI64s
import Derived.Test.YtmfndpkhcejffaaSrtLaw
import Derived.Sort.OwnSortedInts
namespace Go.Proofs.Ytmfndpkhcejffaa
open Go.RowKit Go.Sort

theorem sortN_any {base n c : Nat} {A : Option Addr} (l : List Int) (hl : l.length = n) (hn : n ≤ 4000000000000000000) (w : World) (hown : w.ownsRow base 3 1 (.slice A n c) n (i64s l)) :
    Calls Try.prog 42 #[.slice A n c] w (R1 (.tuple #[]) (fun w' => w'.ownsRow base 3 1 (.slice A n c) n (i64s (sortI l)) ∧ w.grownBy w' (Value.slice A n c).ownBlock)) := by
  subst hl
  rcases hown.2 with ⟨hnil, h0⟩ | ⟨g, cap, cur, hv, hbase, hb, h1, h2, h3, h4⟩
  · injection hnil with e1 e2 e3
    have el : l = [] := List.eq_nil_of_length_eq_zero h0
    subst e1 e3 el
    exact (Try.slices_Sort_int_none none 0 w).mono (fun e w' h => by
      obtain ⟨rfl, rfl⟩ := h
      exact ⟨rfl, by rw [show sortI [] = [] by unfold sortI; simp]; exact hown, World.grownBy.refl _ _⟩)
  · injection hv with e1 e2 e3
    subst e1 e3
    rw [Nat.mul_one] at h4
    exact (Try.slices_Sort_int g 0 c l w (holds_of_blockI hb h4) (Array.getElem?_eq_some_iff.1 hb).1 (by omega)).mono (fun e w' h => by
      obtain ⟨rfl, nn, os, rfl⟩ := h
      exact ⟨rfl, ownsRow_sortedI (ts := sortI l) (sortI_len l) hbase hb h1 h2 h3, grownBy_sortedI _⟩)
end Go.Proofs.Ytmfndpkhcejffaa
