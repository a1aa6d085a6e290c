/- Two hands beside each other: each operation on the one leaves the other. Conditions: the hands' own. -/
import Derived.Test.YtokilodekbjpnaaHandSt
import Derived.Test.YtokilodekbjpnaaHandAl
import Derived.Test.YtokilodekbjpnaaEqI64
namespace Go.Proofs.Ytokilodekbjpnaa
open Go.RowKit

theorem hst_lt {w : World} {S : Nat → Prop} {g : Nat} {s : Hnd} (h : HSt w S g s) : ∀ k, S k → k < w.heap.size := by obtain ⟨A, N, L, a, n, l, h⟩ := h; exact h.lt
def Two (w0 w : World) (g q : Nat) (s r : Hnd) : Prop :=
  ∃ S T, HSt w S g s ∧ HSt w T q r ∧ (∀ k, S k → ¬ T k) ∧ (∀ k, S k → w0.heap.size ≤ k) ∧ (∀ k, T k → w0.heap.size ≤ k) ∧ OkH s ∧ OkH r ∧ Below w0.heap.size w0 w
variable {w0 w w' : World} {g q : Nat} {s r s' : Hnd}
theorem Two.swap (h : Two w0 w g q s r) : Two w0 w q g r s := by
  obtain ⟨S, T, h1, h2, h3, h4, h5, h6, h7, h8⟩ := h
  exact ⟨T, S, h2, h1, fun k ht hs => h3 k hs ht, h5, h4, h7, h6, h8⟩
theorem Two.next (h : Two w0 w g q s r) (hb : Below w.heap.size w w') : Two w0 w' g q s r := by
  obtain ⟨S, T, h1, h2, h3, h4, h5, h6, h7, h8⟩ := h
  exact ⟨S, T, h1.next hb, h2.next hb, h3, h4, h5, h6, h7, bnext h8 hb⟩
theorem Two.ok (h : Two w0 w g q s r) : OkH s := by obtain ⟨S, T, h1, h2, h3, h4, h5, h6, h7, h8⟩ := h; exact h6
theorem Two.okr (h : Two w0 w g q s r) : OkH r := by obtain ⟨S, T, h1, h2, h3, h4, h5, h6, h7, h8⟩ := h; exact h7
theorem Two.bel (h : Two w0 w g q s r) : Below w0.heap.size w0 w := by obtain ⟨S, T, h1, h2, h3, h4, h5, h6, h7, h8⟩ := h; exact h8
theorem Two.step (h : Two w0 w g q s r) : ∃ S, HSt w S g s ∧ (∀ w', OkH s' → HP S g s' w w' → Two w0 w' g q s' r) := by
  obtain ⟨S, T, h1, h2, h3, h4, h5, h6, h7, h8⟩ := h
  refine ⟨S, h1, fun w' hk hp => ?_⟩
  obtain ⟨S', g1, g2, g3⟩ := hp
  refine ⟨S', T, g1, h2.nextS g3 (fun k ht hs => h3 k hs ht), fun k hs ht => ?_, fun k hs => ?_, h5, hk, h7, h8.trans (g3.below h8.size h4)⟩
  · rcases g2 k hs with e | e
    · exact h3 k e ht
    · have := hst_lt h2 k ht; omega
  · rcases g2 k hs with e | e
    · exact h4 k e
    · have := h8.size; omega
theorem Two.of {w1 w2 w3 : World} {ow : ByteArray} (hb1 : Below w.heap.size w w1) (h1 : HSt w2 (fun k => k = w1.heap.size) w1.heap.size (newH ow)) (hb2 : Below w1.heap.size w1 w2) (h2 : HSt w3 (fun k => k = w2.heap.size) w2.heap.size (newH ow)) (hb3 : Below w2.heap.size w2 w3) : Two w w3 w1.heap.size w2.heap.size (newH ow) (newH ow) := by
  refine ⟨_, _, h1.next hb3, h2, fun k e1 e2 => ?_, fun k e => ?_, fun k e => ?_, okH_new ow, okH_new ow, bnext (bnext hb1 hb2) hb3⟩
  · have := hst_lt h1 _ rfl; omega
  · have := hb1.size; omega
  · have := hb1.size; have := hb2.size; omega
theorem write2 (h : Two w0 w g q s r) (ep id : Int) :
    Calls Try.prog 29 #[.pointer (some ⟨g, 0, none⟩), .int .i64 ep, .int .i64 id] w (R1 (.int .i64 (wrH s ep id).2) (fun w' => Two w0 w' g q (wrH s ep id).1 r)) := by
  obtain ⟨S, h1, h2⟩ := h.step (s' := (wrH s ep id).1)
  refine (write_any S g s h.ok ep id w h1).mono ?_
  rintro e w' ⟨rfl, hp⟩
  exact ⟨rfl, h2 w' (okH_wr h.ok ep id) hp⟩
theorem prep2 (h : Two w0 w g q s r) (to : ByteArray) (hto : to.size ≤ maxLen) :
    Calls Try.prog 30 #[.pointer (some ⟨g, 0, none⟩), .string to] w (R1 (.int .i64 (prepH s to).2) (fun w' => Two w0 w' g q (prepH s to).1 r)) := by
  obtain ⟨S, h1, h2⟩ := h.step (s' := (prepH s to).1)
  refine (prep_any S g s h.ok to hto w h1).mono ?_
  rintro e w' ⟨rfl, hp⟩
  exact ⟨rfl, h2 w' (okH_prep h.ok to) hp⟩
theorem copy2 (h : Two w0 w g q s r) (n : Int) :
    Calls Try.prog 31 #[.pointer (some ⟨g, 0, none⟩), .int .i64 n] w (RV (fun v w' => v = .tuple #[.int .i64 (copyH s n).2.1, .int .i64 (copyH s n).2.2] ∧ Two w0 w' g q (copyH s n).1 r)) := by
  obtain ⟨S, h1, h2⟩ := h.step (s' := (copyH s n).1)
  refine (hcopy_any S g s h.ok n w h1).mono ?_
  rintro e w' ⟨v, rfl, hv, hp⟩
  exact ⟨v, rfl, hv, h2 w' (okH_copy h.ok n) hp⟩
theorem abort2 (h : Two w0 w g q s r) :
    Calls Try.prog 32 #[.pointer (some ⟨g, 0, none⟩)] w (R1 (.int .i64 (abortH s).2) (fun w' => Two w0 w' g q (abortH s).1 r)) := by
  obtain ⟨S, h1, h2⟩ := h.step (s' := (abortH s).1)
  refine (habort_any S g s w h1).mono ?_
  rintro e w' ⟨rfl, hp⟩
  exact ⟨rfl, h2 w' (okH_abort h.ok) hp⟩
theorem view2 (h : Two w0 w g q s r) :
    Calls Try.prog 26 #[.pointer (some ⟨g, 0, none⟩)] w (R1 (.agg (viewA s)) (fun w' => Two w0 w' g q s r)) := by
  obtain ⟨S, h1, _⟩ := h.step (s' := s)
  refine (view_any S g s w h1).mono ?_
  rintro e w' ⟨rfl, hb⟩
  exact ⟨rfl, h.next hb⟩
theorem read2 (h : Two w0 w g q s r) (he : s.ep = 1) (l : List Int) (n : Nat) (hl : s.has = l) (hn : l.length = n) :
    Calls Try.prog 28 #[.pointer (some ⟨g, 0, none⟩), .int .i64 1] w (RV (fun v w' => ∃ A c, v = .tuple #[.slice A n c, .int .i64 0] ∧ Has w' w'.heap.size A (i64s l) ∧ Below w.heap.size w w' ∧ Two w0 w' g q s r)) := by
  subst hl
  subst hn
  obtain ⟨S, h1, _⟩ := h.step (s' := s)
  have H := hread_any S g s h.ok 1 w h1
  rw [show readH s 1 = (s.has, 0) from if_neg (by rw [he]; exact fun g => g rfl)] at H
  refine H.mono ?_
  rintro e w' ⟨v, rfl, A, c, rfl, ho, hb⟩
  exact ⟨_, rfl, A, c, rfl, Has.of_own ho, hb, h.next hb⟩
end Go.Proofs.Ytokilodekbjpnaa
