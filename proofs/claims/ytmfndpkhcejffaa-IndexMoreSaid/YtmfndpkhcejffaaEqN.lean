/- What slices.Equal tells of two rows of i64. Conditions: none beyond the theorem's own hypotheses. -/
import Derived.Test.YtmfndpkhcejffaaI64s
namespace Go.Proofs.Ytmfndpkhcejffaa
open Go.RowKit

theorem eq_at_n {l m : List Int} (hl : l.length = m.length) (h : ∀ i, i < l.length → at_ l i = at_ m i) : l = m := by
  apply List.ext_getElem hl
  intro i h1 h2
  have := h i h1
  rwa [at_eq h1, at_eq h2] at this

set_option maxRecDepth 1000000 in
set_option maxHeartbeats 1000000 in
theorem equalN_any (A B : Option Addr) (n m c d : Nat) (l k : List Int) (hn : l.length = n) (hm : k.length = m) (hl : n ≤ maxLen) (hk : m ≤ maxLen) (w : World) (h : Has w w.heap.size A (i64s l)) (h' : Has w w.heap.size B (i64s k)) :
    Calls Try.prog 11 #[.slice A n c, .slice B m d] w (R1 (.bool (decide (l = k))) (Drawn w)) := by
  unfold maxLen at hl hk
  by_cases hnm : n = m
  · subst hnm
    go_enter Try.func11, Try.ntmps11
    go_wp2
    go_loopw [13] (fun i wr => ∃ j : Nat, j ≤ n ∧ i = .int .i64 (j : Nat) ∧ Hid (∀ q, q < j → at_ l q = at_ k q) ∧ Drawn w wr) (fun i _ => n - (intOf i).toNat)
    case atStart => exact ⟨0, by omega, rfl, Lib.hid (fun q hq => by omega), Drawn.refl _⟩
    case round =>
      obtain ⟨j, hj, rfl, heq, nd, rfl⟩ := hrel
      by_cases hlt : (j : Int) < (n : Int)
      · obtain ⟨ad, rfl, _, c1⟩ := h.at (i64s_at (show j < l.length by omega))
        obtain ⟨bd, rfl, _, c3⟩ := h'.at (i64s_at (show j < k.length by omega))
        have q1 : (0 : Int) ≤ (j : Int) := by omega
        by_cases e : at_ l j = at_ k j
        · have f1 : ((at_ l j) != (at_ k j)) = false := by rw [e]; simp
          have E := Lib.hid e; clear e
          go_wp2
          go_quiet (fail)
          go_wp2
          go_roundw
          case rel => exact ⟨j + 1, by omega, by go_num, Lib.hid (fun q hq => by rcases Nat.lt_or_ge q j with h1 | h1; exact heq.out q h1; rw [show q = j by omega]; exact E.out), _, rfl⟩
          case measure => simp [intOf]; omega
        · have f1 : ((at_ l j) != (at_ k j)) = true := by rw [bne_iff_ne]; omega
          have E := Lib.hid e; clear e
          go_wp2
          go_quiet (fail)
          go_wp2
          go_ret
          exact R1.mk (bool_eq (by rw [eq_comm, decide_eq_false_iff_not]; intro h1; exact E.out (by rw [h1]))) (Drawn.two _ _ _)
      · go_wp2
        go_ret
        exact R1.mk (bool_eq (by rw [eq_comm, decide_eq_true_iff]; exact eq_at_n (by omega) (fun i hi => heq.out i (by omega)))) ⟨_, rfl⟩
  · have f0 : ((n : Int) != (m : Int)) = true := by rw [bne_iff_ne]; omega
    have E := Lib.hid hnm; clear hnm
    go_enter Try.func11, Try.ntmps11
    go_wp2
    go_ret
    exact R1.mk (bool_eq (by rw [eq_comm, decide_eq_false_iff_not]; intro h1; exact E.out (by rw [← hn, ← hm, h1]))) (Drawn.refl _)
end Go.Proofs.Ytmfndpkhcejffaa
