/- Small plain laws on rows of a call's own. Conditions: none beyond each theorem's own hypotheses. -/
import Derived.Test.YtmfndpkhcejffaaKit
namespace Go.Proofs.Ytmfndpkhcejffaa
open Go.RowKit

theorem own_len {w : World} {base size n c : Nat} {e : TypeId} {A : Option Addr} {xs : List Value} (h : w.ownsRow base e size (.slice A n c) n xs) : n ≤ c ∧ c ≤ maxLen := by
  obtain ⟨A', c', e1, h2, h3, _, _⟩ := own_form h
  injection e1 with _ _ e3
  subst e3
  exact ⟨h2, h3⟩
theorem own_ne {w : World} {g b : Nat} {t : TypeId} {cs : Array Value} {base size n c : Nat} {e : TypeId} {xs : List Value} (h : Blk w g t cs) (ho : w.ownsRow base e size (.slice (some ⟨b, 0, none⟩) n c) n xs) (ht : t ≠ e) : b ≠ g := by
  intro hb
  subst hb
  rcases ho.2 with ⟨h', _⟩ | ⟨q, cap, cur, h', _, hg, _⟩
  · cases h'
  · injection h' with h' _
    injection h' with h'
    injection h' with h'
    subst h'
    unfold Blk at h
    rw [h] at hg
    injection hg with hg
    injection hg with _ hg
    exact ht hg
theorem own_some {w : World} {base e size n c : Nat} {A : Option Addr} {xs : List Value} (ho : w.ownsRow base e size (.slice A n c) n xs) (hn : 0 < n) : ∃ b, A = some ⟨b, 0, none⟩ ∧ base ≤ b ∧ b < w.heap.size ∧ n ≤ c := by
  rcases ho.2 with ⟨_, h'⟩ | ⟨q, cap, cur, h', hb, hg, hc, _⟩
  · omega
  · injection h' with h1 h2 h3
    subst h1
    exact ⟨q, rfl, hb, (Array.getElem?_eq_some_iff.1 hg).1, by omega⟩
theorem own_row_ne {w : World} {g : Nat} {t : TypeId} {cs : Array Value} {base size n : Nat} {v : Value} {e : TypeId} {xs : List Value} (h : Blk w g t cs) (ho : w.ownsRow base e size v n xs) (ht : t ≠ e) : some g ≠ v.ownBlock := by
  rcases ho.2 with ⟨rfl, _⟩ | ⟨q, cap, cur, rfl, hb, hg, h1, h2, h3, h4⟩
  · intro h'; cases h'
  · intro h'
    injection h' with h'
    exact own_ne (n := n) (c := cap) h ⟨ho.1, .inr ⟨q, cap, cur, rfl, hb, hg, h1, h2, h3, h4⟩⟩ ht h'.symm
theorem own_base {w : World} {base g : Nat} {t : TypeId} {cs : Array Value} (hg : base ≤ g) (h : Blk w g t cs) : base ≤ w.heap.size := Nat.le_trans hg (Nat.le_of_lt h.lt)
theorem own_set_other {w : World} {g : Nat} {base size n : Nat} {v : Value} {e : TypeId} {xs : List Value} (ho : w.ownsRow base e size v n xs) (hne : some g ≠ v.ownBlock) (i : Nat) (u : Value) : (w.setCell ⟨g, i, none⟩ u).ownsRow base e size v n xs := by
  refine ⟨ho.1, ?_⟩
  rcases ho.2 with h | ⟨q, cap, cur, rfl, hb, hg, h1, h2, h3, h4⟩
  · exact .inl h
  · exact .inr ⟨q, cap, cur, rfl, hb, (Below.heap_setCell w ⟨g, i, none⟩ u q (fun e => hne (by rw [e]; rfl))).trans hg, h1, h2, h3, h4⟩
theorem own_cell {w : World} {base size n c b : Nat} {e : TypeId} {xs : List Value} (h : w.ownsRow base e size (.slice (some ⟨b, 0, none⟩) n c) n xs) {k : Nat} {u : Value} (hu : xs[k]? = some u) : w.cell? ⟨b, k, none⟩ = some u := by
  obtain ⟨ad, e', _, hc⟩ := (Has.of_own h).at hu
  injection e' with e'
  subst e'
  have hadd : (⟨b, 0, none⟩ : Addr).add k = ⟨b, k, none⟩ := by unfold Addr.add; split <;> simp_all
  rwa [hadd] at hc
end Go.Proofs.Ytmfndpkhcejffaa
