/- What slices.IsSorted tells of a row of int. Conditions: none beyond the theorem's own hypotheses. -/
import Derived.Test.YtmfndpkhcejffaaLessN
namespace Go.Proofs.Ytmfndpkhcejffaa
open Go.RowKit

def srt (l : List Int) : Bool := (List.range (l.length - 1)).all fun i => decide (at_ l i ≤ at_ l (i + 1))
theorem srt_true {l : List Int} : srt l = true ↔ ∀ q, q + 1 < l.length → at_ l q ≤ at_ l (q + 1) := by
  unfold srt
  rw [List.all_eq_true]
  constructor
  · intro h q hq; simpa using h q (by rw [List.mem_range]; omega)
  · intro h q hq; rw [List.mem_range] at hq; simpa using h q (by omega)

set_option maxRecDepth 1000000 in
set_option maxHeartbeats 1000000 in
theorem isSortedN_any (A : Option Addr) (n c : Nat) (l : List Int) (hn : l.length = n) (hl : n ≤ maxLen) (w : World) (h : Has w w.heap.size A (i64s l)) :
    Calls Try.prog 17 #[.slice A n c] w (R1 (.bool (srt l)) (Drawn w)) := by
  unfold maxLen at hl
  have Hn := Lib.hid hn; clear hn
  have e0 : IntKind.i64.wrap ((n : Int) - 1) = (n : Int) - 1 := IntWalk.i64_in _ (by omega)
  go_enter Try.func17, Try.ntmps17
  go_wp2_with fail
  go_loopw [3] (fun i wr => ∃ z : Int, -1 ≤ z ∧ z < n ∧ i = .int .i64 z ∧ Hid (∀ q : Nat, z ≤ q → q + 1 < n → at_ l q ≤ at_ l (q + 1)) ∧ Drawn w wr) (fun i _ => (intOf i + 3).toNat)
  case atStart => exact ⟨(n : Int) - 1, by omega, by omega, int_eq (by omega), Lib.hid (fun q h1 h2 => by omega), Drawn.refl _⟩
  case round =>
    obtain ⟨z, hz1, hz2, rfl, hs, hd⟩ := hrel
    have h := h.below (drawn_below hd)
    by_cases hz : 0 < z
    · obtain ⟨m, rfl⟩ := Int.eq_ofNat_of_zero_le (show 0 ≤ z by omega)
      obtain ⟨j, hj⟩ : ∃ j : Nat, m = j + 1 := ⟨m - 1, by omega⟩
      obtain ⟨ad, rfl, _, c1⟩ := h.at (i64s_at (show j < l.length by rw [Hn.out]; omega))
      obtain ⟨ad', e, _, c2⟩ := h.at (i64s_at (show m < l.length by rw [Hn.out]; omega))
      injection e with e
      subst e
      have e1 : IntKind.i64.wrap ((m : Int) - 1) = (j : Int) := IntWalk.i64_in _ (by omega) |>.trans (by omega)
      have q1 : (0 : Int) ≤ (j : Int) := by omega
      have q2 : (j : Int) < (n : Int) := by omega
      have q3 : (m : Int) < (n : Int) := by omega
      have Hj := Lib.hid hj; clear hj
      go_wp2_with fail
      by_cases ht : at_ l m < at_ l j
      · have d1 : decide (at_ l m < at_ l j) = true := decide_eq_true ht
        go_quiet ((go_at_call 33; exact Calls.quiet_of_same (lessN_any _ _ _)))
        go_wp2_with fail
        go_ret
        exact R1.mk (bool_eq (by rw [eq_comm, Bool.eq_false_iff]; intro hc; have := srt_true.1 hc j (by rw [Hn.out, ← Hj.out]; omega); rw [← Hj.out] at this; omega)) (drawn_moreN hd _)
      · have d1 : decide (at_ l m < at_ l j) = false := decide_eq_false ht
        go_quiet ((go_at_call 33; exact Calls.quiet_of_same (lessN_any _ _ _)))
        go_wp2_with fail
        go_roundw
        case rel => exact ⟨(j : Int), by omega, by omega, rfl, Lib.hid (fun q h1 h2 => by rcases (show q = j ∨ (j : Int) + 1 ≤ (q : Int) by omega) with rfl | h3; rw [← Hj.out]; omega; exact hs.out q (by have := Hj.out; omega) h2), drawn_moreN hd _⟩
        case measure => have := Hj.out; simp [intOf]; omega
    · go_wp2_with fail
      go_ret
      exact R1.mk (bool_eq (by rw [eq_comm]; exact srt_true.2 (fun q hq => hs.out q (by omega) (by rw [Hn.out] at hq; exact hq)))) hd
end Go.Proofs.Ytmfndpkhcejffaa
