/- What slices.Equal tells of two rows of strings. Conditions: none beyond the theorem's own hypotheses. -/
import Derived.Test.YtmbpgenjjgepiaaIdxS
namespace Go.Proofs.Ytmbpgenjjgepiaa
open Go.RowKit

theorem eq_at_S {l m : List ByteArray} (hl : l.length = m.length) (h : ∀ i, i < l.length → at_ l i = at_ m i) : l = m := by
  apply List.ext_getElem hl
  intro i h1 h2
  have := h i h1
  rwa [at_eq h1, at_eq h2] at this
theorem nameS_eq (a b : ByteArray) : (a.toList == b.toList) = decide (a = b) := by
  by_cases h : a = b
  · rw [h, decide_eq_true rfl, beq_iff_eq]
  · rw [decide_eq_false h, beq_eq_false_iff_ne]; exact fun e => h (bytes_ext e)

set_option maxRecDepth 1000000 in
set_option maxHeartbeats 1000000 in
theorem equalS_any (A B : Option Addr) (n m c d : Nat) (l k : List ByteArray) (hn : l.length = n) (hm : k.length = m) (hl : n ≤ maxLen) (hk : m ≤ maxLen) (w : World) (h : Has w w.heap.size A (strCs l)) (h' : Has w w.heap.size B (strCs k)) :
    Calls Try.prog 10 #[.slice A n c, .slice B m d] w (R1 (.bool (decide (l = k))) (Drawn w)) := by
  unfold maxLen at hl hk
  by_cases hnm : n = m
  · subst hnm
    have Hn := Lib.hid hn
    have Hm := Lib.hid hm
    clear hn hm
    go_enter Try.func10, Try.ntmps10
    go_wp2
    go_loopw [13] (fun i wr => ∃ j : Nat, j ≤ n ∧ i = .int .i64 (j : Nat) ∧ Hid (∀ q, q < j → at_ l q = at_ k q) ∧ Drawn w wr) (fun i _ => n - (intOf i).toNat)
    case atStart => exact ⟨0, by omega, rfl, Lib.hid (fun q hq => by omega), Drawn.refl _⟩
    case round =>
      obtain ⟨j, hj, rfl, heq, nd, rfl⟩ := hrel
      by_cases hlt : (j : Int) < (n : Int)
      · obtain ⟨ad, rfl, _, c1⟩ := h.at (strCsI_at (show j < l.length by rw [Hn.out]; omega))
        obtain ⟨bd, rfl, _, c3⟩ := h'.at (strCsI_at (show j < k.length by rw [Hm.out]; omega))
        have q1 : (0 : Int) ≤ (j : Int) := by omega
        obtain ⟨x, hx⟩ : ∃ x, at_ l j = x := ⟨_, rfl⟩
        obtain ⟨y, hy⟩ : ∃ y, at_ k j = y := ⟨_, rfl⟩
        rw [hx] at c1
        rw [hy] at c3
        have Hx := Lib.hid hx
        have Hy := Lib.hid hy
        clear hx hy
        by_cases e : x = y
        · subst e
          have f1 : (x.toList == x.toList) = true := by rw [beq_iff_eq]
          have f2 : (x.toList != x.toList) = false := by simp
          go_wp2
          go_quiet (fail)
          go_wp2
          go_roundw
          case rel => exact ⟨j + 1, by omega, by go_num, Lib.hid (fun q hq => by rcases Nat.lt_or_ge q j with h1 | h1; exact heq.out q h1; rw [show q = j by omega, Hx.out, Hy.out]), _, rfl⟩
          case measure => simp [intOf]; omega
        · have f1 : (x.toList == y.toList) = false := by rw [nameS_eq, decide_eq_false e]
          have f2 : (x.toList != y.toList) = true := by unfold bne; rw [nameS_eq, decide_eq_false e]; rfl
          have E := Lib.hid e; clear e
          go_wp2
          go_quiet (fail)
          go_wp2
          go_ret
          exact R1.mk (bool_eq (by rw [eq_comm, decide_eq_false_iff_not]; intro h1; exact E.out (by rw [← Hx.out, ← Hy.out, h1]))) (Drawn.two _ _ _)
      · go_wp2
        go_ret
        exact R1.mk (bool_eq (by rw [eq_comm, decide_eq_true_iff]; exact eq_at_S (by rw [Hn.out, Hm.out]) (fun i hi => heq.out i (by rw [Hn.out] at hi; omega)))) ⟨_, rfl⟩
  · have f0 : ((n : Int) != (m : Int)) = true := by rw [bne_iff_ne]; omega
    have E := Lib.hid hnm; clear hnm
    go_enter Try.func10, Try.ntmps10
    go_wp2
    go_ret
    exact R1.mk (bool_eq (by rw [eq_comm, decide_eq_false_iff_not]; intro h1; exact E.out (by rw [← hn, ← hm, h1]))) (Drawn.refl _)
end Go.Proofs.Ytmbpgenjjgepiaa
