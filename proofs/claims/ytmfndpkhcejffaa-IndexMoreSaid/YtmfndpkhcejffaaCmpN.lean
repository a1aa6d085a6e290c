/- What slices.Compact makes of a row of int of the call's own. Conditions: the row is a block of its own. -/
import Derived.Test.YtmfndpkhcejffaaShN
import Derived.Test.YtmfndpkhcejffaaSortN
namespace Go.Proofs.Ytmfndpkhcejffaa
open Go.RowKit Go.Sort

def CmpNP (base n c : Nat) (A : Option Addr) (l : List Int) (w : World) (v : Value) (w' : World) : Prop :=
  v = .slice A (Lib.compact l).length c ∧ w'.ownsRow base 3 1 (.slice A (Lib.compact l).length c) (Lib.compact l).length (i64s (Lib.compact l)) ∧ w.grownBy w' (Value.slice A n c).ownBlock
theorem compactN_any {base n c : Nat} {A : Option Addr} (l : List Int) (hl : l.length = n) (hn : n ≤ 4000000000000000000) (w : World) (hown : w.ownsRow base 3 1 (.slice A n c) n (i64s l)) :
    Calls Try.prog 43 #[.slice A n c] w (RV (CmpNP base n c A l w)) := by
  rcases hown.2 with ⟨hnil, h0⟩ | ⟨g, cap, cur, hv, hbase, hb, h1, h2, h3, h4⟩
  · injection hnil with e1 e2 e3
    have el : l = [] := List.eq_nil_of_length_eq_zero (by omega)
    subst h0 e1 e3 el
    exact (Try.slices_Compact_int_empty none 0 w).mono (fun e w' h => by
      obtain ⟨rfl, rfl⟩ := h
      exact ⟨_, rfl, rfl, hown, World.grownBy.refl _ _⟩)
  · injection hv with e1 e2 e3
    subst e1 e3
    have h4' := h4
    rw [Nat.mul_one] at h4'
    rw [← hl] at h4' h1 ⊢
    exact (Try.slices_Compact_int g 0 c l w (holds_of_blockI hb h4') (by omega) h1).mono (fun e w' h => by
      obtain ⟨rfl, q, rfl⟩ := h
      have e : ∀ W : World, grow W #[] = W := fun W => by unfold grow; simp
      have hg := grownBy_sortedI (w := w) (g := g) (n := q) (os := #[]) (Lib.compact l ++ List.replicate (l.length - (Lib.compact l).length) 0).toArray
      have hlen : (Lib.compact l ++ List.replicate (l.length - (Lib.compact l).length) 0).length = l.length := by
        have := compact_le (l := l)
        rw [List.length_append, List.length_replicate]; omega
      have ho := ownsRow_sortedI (w := w) (base := base) (n := q) (os := #[]) (ts := Lib.compact l ++ List.replicate (l.length - (Lib.compact l).length) 0) hlen hbase hb h1 h2 h3
      rw [e] at hg ho
      refine ⟨_, rfl, rfl, ?_, hg⟩
      have hle := compact_le (l := l)
      refine ⟨by rw [i64s_len, Nat.mul_one], ?_⟩
      rcases ho.2 with ⟨hx, _⟩ | ⟨g', cap', cur', hv', hb', hh', k1, k2, k3, k4⟩
      · cases hx
      · injection hv' with e1 e2 e3
        injection e1 with e1
        injection e1 with e1
        subst e1 e3
        refine .inr ⟨g, c, cur', rfl, hb', hh', by omega, k2, k3, ?_⟩
        rw [Nat.mul_one] at k4 ⊢
        have k5 := congrArg (List.take (Lib.compact l).length) k4
        rw [List.take_take, Nat.min_eq_left hle] at k5
        rw [k5, List.map_append, List.take_append_of_le_length (by rw [List.length_map]; exact Nat.le_refl _), List.take_of_length_le (by rw [List.length_map]; exact Nat.le_refl _)]
        rfl)
end Go.Proofs.Ytmfndpkhcejffaa
