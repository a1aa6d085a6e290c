/- Rows of a call's own beside each other: what a write elsewhere leaves as it was. Conditions: none beyond each theorem's own hypotheses. -/
import Derived.Test.YtokilodekbjpnaaOwn
import Derived.Test.YtokilodekbjpnaaSameC
namespace Go.Proofs.Ytokilodekbjpnaa
open Go.RowKit

theorem rk_ne {w : World} {g : Nat} {t : TypeId} {cs : Array Value} {base size n : Nat} {v : Value} {e : TypeId} {xs : List Value} (h : Blk w g t cs) (ho : w.ownsRow base e size v n xs) (ht : t ≠ e) : some g ≠ v.ownBlock := by
  rcases ho.2 with ⟨rfl, _⟩ | ⟨q, cap, cur, rfl, hb, hg, h1, h2, h3, h4⟩
  · intro h'; cases h'
  · intro h'
    injection h' with h'
    have h' : g = q := h'
    subst h'
    unfold Blk at h
    rw [h] at hg
    injection hg with hg
    injection hg with _ hg
    exact ht hg
theorem rk_set {w : World} {g : Nat} {base size n : Nat} {v : Value} {e : TypeId} {xs : List Value} (ho : w.ownsRow base e size v n xs) (hne : some g ≠ v.ownBlock) (i : Nat) (u : Value) : (w.setCell ⟨g, i, none⟩ u).ownsRow base e size v n xs := by
  refine ⟨ho.1, ?_⟩
  rcases ho.2 with h | ⟨q, cap, cur, rfl, hb, hg, h1, h2, h3, h4⟩
  · exact .inl h
  · exact .inr ⟨q, cap, cur, rfl, hb, (Below.heap_setCell w ⟨g, i, none⟩ u q (fun e => hne (by rw [e]; rfl))).trans hg, h1, h2, h3, h4⟩
theorem rk_lt {w : World} {base size n : Nat} {e : TypeId} {v : Value} {xs : List Value} (h : w.ownsRow base e size v n xs) : ∀ k, v.ownBlock = some k → k < w.heap.size := by
  intro k hk
  rcases h.2 with ⟨rfl, _⟩ | ⟨q, cap, cur, rfl, hb, hgg, _⟩
  · cases hk
  · injection hk with hk
    have : q = k := hk
    subst this
    exact (Array.getElem?_eq_some_iff.1 hgg).1
theorem rk_two {w : World} {b1 b2 s1 s2 n1 n2 : Nat} {v1 v2 : Value} {e1 e2 : TypeId} {x1 x2 : List Value} (h1 : w.ownsRow b1 e1 s1 v1 n1 x1) (h2 : w.ownsRow b2 e2 s2 v2 n2 x2) (ht : e1 ≠ e2) : ∀ k, v1.ownBlock = some k → some k ≠ v2.ownBlock := by
  intro k hk
  rcases h1.2 with ⟨rfl, _⟩ | ⟨q, cap, cur, rfl, _, hg, _⟩
  · cases hk
  · injection hk with hk
    have hk : q = k := hk
    subst hk
    rcases h2.2 with ⟨rfl, _⟩ | ⟨q', cap', cur', rfl, _, hg', _⟩
    · intro h; cases h
    · intro h
      injection h with h
      have h : q = q' := h
      subst h
      rw [hg] at hg'
      injection hg' with hg'
      injection hg' with _ hg'
      exact ht hg'
theorem rk_grown {w w' : World} {base size n : Nat} {e : TypeId} {v : Value} {xs : List Value} {row : Option Nat} (h : w.ownsRow base e size v n xs) (hg : w.grownBy w' row) (hne : ∀ k, v.ownBlock = some k → some k ≠ row) : w'.ownsRow base e size v n xs := by
  refine ⟨h.1, ?_⟩
  rcases h.2 with h2 | ⟨g, cap, cur, rfl, hb, hgg, rest⟩
  · exact .inl h2
  · exact .inr ⟨g, cap, cur, rfl, hb, (hg.block g (Array.getElem?_eq_some_iff.1 hgg).1 (hne g rfl)).trans hgg, rest⟩
theorem rk_ok {w : World} {base c : Nat} {A : Option Addr} {l : List Nat} (h : w.ownsRow base 96 1 (.slice A l.length c) l.length (u64s l)) : Row.ok w ⟨A, c, l⟩ := by
  refine ⟨(own_len h).1, (own_len h).2, ?_, Has.of_own h⟩
  intro e
  rcases h.2 with ⟨h1, _⟩ | ⟨q, cap, cur, h1, _⟩
  · injection h1
  · simp only [] at e
    rw [e] at h1
    injection h1 with h1
    cases h1
/-- the rows of claims that are the call's own -/
def RowsOwn (w : World) (B : Nat) (L : List ClE) : Prop := ∀ e ∈ L, w.ownsRow B 96 1 (.slice e.t.A e.t.l.length e.t.c) e.t.l.length (u64s e.t.l)
theorem RowsOwn.nil (w : World) (B : Nat) : RowsOwn w B [] := by intro e he; cases he
theorem RowsOwn.snoc {w : World} {B : Nat} {L : List ClE} {e : ClE} (h : RowsOwn w B L) (he : w.ownsRow B 96 1 (.slice e.t.A e.t.l.length e.t.c) e.t.l.length (u64s e.t.l)) : RowsOwn w B (L ++ [e]) := by
  intro x hx
  rcases List.mem_append.1 hx with hx | hx
  · exact h x hx
  · simp at hx; subst hx; exact he
theorem RowsOwn.next {w w' : World} {B : Nat} {L : List ClE} (h : RowsOwn w B L) (hb : Below w.heap.size w w') : RowsOwn w' B L := fun e he => own_next (h e he) hb
theorem RowsOwn.grown {w w' : World} {B n : Nat} {L : List ClE} {v : Value} {xs : List Value} {base size : Nat} {ty : TypeId} (h : RowsOwn w B L) (ho : w.ownsRow base ty size v n xs) (ht : 96 ≠ ty) (hg : w.grownBy w' v.ownBlock) : RowsOwn w' B L :=
  fun e he => rk_grown (h e he) hg (rk_two (h e he) ho ht)
theorem RowsOwn.alloc {w : World} {B : Nat} {L : List ClE} (h : RowsOwn w B L) (o : Obj) : RowsOwn (w.alloc o) B L := fun e he => (h e he).alloc o
theorem RowsOwn.drewN {w : World} {B : Nat} {L : List ClE} (h : RowsOwn w B L) (n : Nat) : RowsOwn (w.drewN n) B L := fun e he => own_drewN (h e he) n
theorem RowsOwn.good {w : World} {B : Nat} {L : List ClE} (h : RowsOwn w B L) : ∀ e ∈ L, Row.ok w e.t := fun e he => rk_ok (h e he)
theorem RowsOwn.less {w : World} {B B' : Nat} {L : List ClE} (h : RowsOwn w B L) (hb : B' ≤ B) : RowsOwn w B' L := fun e he => own_less (h e he) hb
end Go.Proofs.Ytokilodekbjpnaa
