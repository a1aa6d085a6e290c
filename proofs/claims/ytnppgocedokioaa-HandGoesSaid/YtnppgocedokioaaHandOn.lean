/- A hand beside a row of int64 of the call's own: each operation on the hand leaves the row. Conditions: the hand's own. -/
import Derived.Test.YtnppgocedokioaaHandSt
import Derived.Test.YtnppgocedokioaaHandGo
import Derived.Test.YtnppgocedokioaaConcI
import Derived.Test.YtnppgocedokioaaEqI64
namespace Go.Proofs.Ytnppgocedokioaa
open Go.RowKit

theorem hst_ltO {w : World} {S : Nat → Prop} {g : Nat} {s : Hnd} (h : HSt w S g s) : ∀ k, S k → k < w.heap.size := by obtain ⟨A, N, L, a, n, l, h⟩ := h; exact h.lt
theorem own_outO {S : Nat → Prop} {w w' : World} {base size n : Nat} {e : TypeId} {v : Value} {xs : List Value} (h : w.ownsRow base e size v n xs) (ho : Out S w w') (hd : ∀ k, v.ownBlock = some k → ¬ S k) : w'.ownsRow base e size v n xs := by
  refine ⟨h.1, ?_⟩
  rcases h.2 with h2 | ⟨q, cap, cur, rfl, hb, hgg, rest⟩
  · exact .inl h2
  · exact .inr ⟨q, cap, cur, rfl, hb, (ho.block q (Array.getElem?_eq_some_iff.1 hgg).1 (hd q rfl)).trans hgg, rest⟩
def OneR (w0 w : World) (g : Nat) (s : Hnd) (O : Option Addr) (n e : Nat) (l : List Int) : Prop :=
  ∃ S, HSt w S g s ∧ (∀ k, S k → w0.heap.size ≤ k) ∧ OkH s ∧ w.ownsRow w0.heap.size 2 1 (.slice O n e) n (i64s l) ∧ (∀ q, (Value.slice O n e).ownBlock = some q → ¬ S q) ∧ Below w0.heap.size w0 w
variable {w0 w w' : World} {g n e : Nat} {s s' : Hnd} {O : Option Addr} {l : List Int}
theorem OneR.ok (h : OneR w0 w g s O n e l) : OkH s := by obtain ⟨S, h1, h2, h3, h4, h5, h6⟩ := h; exact h3
theorem OneR.bel (h : OneR w0 w g s O n e l) : Below w0.heap.size w0 w := by obtain ⟨S, h1, h2, h3, h4, h5, h6⟩ := h; exact h6
theorem OneR.row (h : OneR w0 w g s O n e l) : w.ownsRow w0.heap.size 2 1 (.slice O n e) n (i64s l) := by obtain ⟨S, h1, h2, h3, h4, h5, h6⟩ := h; exact h4
theorem OneR.next (h : OneR w0 w g s O n e l) (hb : Below w.heap.size w w') : OneR w0 w' g s O n e l := by
  obtain ⟨S, h1, h2, h3, h4, h5, h6⟩ := h
  exact ⟨S, h1.next hb, h2, h3, own_next h4 hb, h5, bnext h6 hb⟩
theorem OneR.step (h : OneR w0 w g s O n e l) : ∃ S, HSt w S g s ∧ (∀ w', OkH s' → HP S g s' w w' → OneR w0 w' g s' O n e l) := by
  obtain ⟨S, h1, h2, h3, h4, h5, h6⟩ := h
  refine ⟨S, h1, fun w' hk hp => ?_⟩
  obtain ⟨S', g1, g2, g3⟩ := hp
  refine ⟨S', g1, fun k hs => ?_, hk, own_outO h4 g3 h5, fun q hq hs => ?_, h6.trans (g3.below h6.size h2)⟩
  · rcases g2 k hs with e | e
    · exact h2 k e
    · have := h6.size; omega
  · rcases g2 q hs with e | e
    · exact h5 q hq e
    · have := (own_blockM h4 q hq).2; omega
theorem OneR.grown {l' : List Int} (h : OneR w0 w g s O n e l) (ho : w'.ownsRow w0.heap.size 2 1 (.slice O n e) n (i64s l')) (hg : w.grownBy w' (Value.slice O n e).ownBlock) : OneR w0 w' g s O n e l' := by
  obtain ⟨S, h1, h2, h3, h4, h5, h6⟩ := h
  exact ⟨S, h1.nextS (T := fun k => (Value.slice O n e).ownBlock = some k) (Out.grown hg (fun _ hk => hk)) (fun k hs hk => h5 k hk hs), h2, h3, ho, h5, h6.grown hg h6.size (fun k hk => (own_blockM h4 k hk).1)⟩
theorem OneR.after (h : OneR w0 w g s O n e l) (hg : w.grownBy w' (Value.slice O n e).ownBlock) : ∃ S, HSt w' S g s ∧ Below w0.heap.size w0 w' := by
  obtain ⟨S, h1, h2, h3, h4, h5, h6⟩ := h
  exact ⟨S, h1.nextS (T := fun k => (Value.slice O n e).ownBlock = some k) (Out.grown hg (fun _ hk => hk)) (fun k hs hk => h5 k hk hs), h6.grown hg h6.size (fun k hk => (own_blockM h4 k hk).1)⟩
theorem oneW (h : OneR w0 w g s O n e l) (ep id : Int) :
    Calls Try.prog 29 #[.pointer (some ⟨g, 0, none⟩), .int .i64 ep, .int .i64 id] w (R1 (.int .i64 (wrH s ep id).2) (fun w' => OneR w0 w' g (wrH s ep id).1 O n e l)) := by
  obtain ⟨S, h1, h2⟩ := h.step (s' := (wrH s ep id).1)
  refine (write_any S g s h.ok ep id w h1).mono ?_
  rintro e w' ⟨rfl, hp⟩
  exact ⟨rfl, h2 w' (okH_wr h.ok ep id) hp⟩
theorem oneP (h : OneR w0 w g s O n e l) (to : ByteArray) (hto : to.size ≤ maxLen) :
    Calls Try.prog 30 #[.pointer (some ⟨g, 0, none⟩), .string to] w (R1 (.int .i64 (prepH s to).2) (fun w' => OneR w0 w' g (prepH s to).1 O n e l)) := by
  obtain ⟨S, h1, h2⟩ := h.step (s' := (prepH s to).1)
  refine (prep_any S g s h.ok to hto w h1).mono ?_
  rintro e w' ⟨rfl, hp⟩
  exact ⟨rfl, h2 w' (okH_prep h.ok to) hp⟩
theorem oneC (h : OneR w0 w g s O n e l) (m : Int) :
    Calls Try.prog 32 #[.pointer (some ⟨g, 0, none⟩), .int .i64 m] w (RV (fun v w' => v = .tuple #[.int .i64 (copyH s m).2.1, .int .i64 (copyH s m).2.2] ∧ OneR w0 w' g (copyH s m).1 O n e l)) := by
  obtain ⟨S, h1, h2⟩ := h.step (s' := (copyH s m).1)
  refine (hcopy_any S g s h.ok m w h1).mono ?_
  rintro e w' ⟨v, rfl, hv, hp⟩
  exact ⟨v, rfl, hv, h2 w' (okH_copy h.ok m) hp⟩
theorem oneCut (h : OneR w0 w g s O n e l) :
    Calls Try.prog 31 #[.pointer (some ⟨g, 0, none⟩)] w (R1 (.int .i64 (cutH s).2) (fun w' => OneR w0 w' g (cutH s).1 O n e l)) := by
  obtain ⟨S, h1, h2⟩ := h.step (s' := (cutH s).1)
  refine (cut_any S g s w h1).mono ?_
  rintro e w' ⟨rfl, hp⟩
  exact ⟨rfl, h2 w' (okH_cut h.ok) hp⟩
theorem oneV (h : OneR w0 w g s O n e l) :
    Calls Try.prog 23 #[.pointer (some ⟨g, 0, none⟩)] w (R1 (.agg (viewA s)) (fun w' => OneR w0 w' g s O n e l ∧ Below w.heap.size w w')) := by
  obtain ⟨S, h1, h2⟩ := h.step (s' := s)
  refine (view_any S g s w h1).mono ?_
  rintro e w' ⟨rfl, hp⟩
  exact ⟨rfl, h.next hp, hp⟩
theorem oneRd (h : OneR w0 w g s O n e l) (ep : Int) :
    Calls Try.prog 22 #[.pointer (some ⟨g, 0, none⟩), .int .i64 ep] w (RV (fun v w' => ReadP (readH s ep) w v w' ∧ OneR w0 w' g s O n e l)) := by
  obtain ⟨S, h1, h2⟩ := h.step (s' := s)
  refine (hread_any S g s h.ok ep w h1).mono ?_
  rintro e w' ⟨v, rfl, hp⟩
  have hp0 := hp
  obtain ⟨A, c, _, _, hb⟩ := hp
  exact ⟨v, rfl, hp0, h.next hb⟩
theorem sortR (h : OneR w0 w g s O n e l) (hl : l.length = n) (hn : n ≤ 17592186044416) :
    Calls Try.prog 24 #[.slice O n e] w (R1 (.tuple #[]) (fun w' => OneR w0 w' g s O n e (sortI l))) := by
  refine (sortI_any l hl hn w h.row).mono ?_
  rintro e w' ⟨rfl, ho, hg⟩
  exact ⟨rfl, h.grown ho hg⟩
theorem prep_bad {s : Hnd} {to : ByteArray} (h : (prepH s to).2 ≠ 0) : (prepH s to).1 = s := by
  unfold prepH at h ⊢
  split
  · rfl
  · rename_i h1
    rw [if_neg h1] at h
    split
    · rfl
    · rename_i h2
      rw [if_neg h2] at h
      split
      · rfl
      · rename_i h3; rw [if_neg h3] at h; exact absurd rfl h
theorem cut_none {s : Hnd} (h : s.to = emptyS) : cutH s = (s, 11) := by unfold cutH; rw [if_pos h]
theorem cut_few {s : Hnd} (h : s.to ≠ emptyS) (hl : 0 < s.left.length) : cutH s = (s, 13) := by unfold cutH; rw [if_neg h, if_pos hl]
end Go.Proofs.Ytnppgocedokioaa
