/- Texts of the proof of ExprOne, joined (by merge.py). Conditions: each theorem's own hypotheses. -/
import Derived.Test.YtnicbhmeigpjkaaGreatDoorExprOneP7
import Derived.Test.YtnicbhmeigpjkaaGreatDoorExprOneP9
namespace Go.Proofs.YtnicbhmeigpjkaaGreatDoor
open Go.RowKit

theorem strCsI_at {l : List ByteArray} {k : Nat} (h : k < l.length) : (strCs l)[k]? = some (.string (at_ l k)) := by
  have := flat_at (f := strC) (C := 1) (fun _ => rfl) h (r := 0) (by decide)
  rw [Nat.mul_one, Nat.add_zero] at this
  exact this
def hasS (x : ByteArray) (l : List ByteArray) : Bool := l.any fun y => decide (x = y)
theorem hasS_iff (x : ByteArray) (l : List ByteArray) : hasS x l = true ↔ x ∈ l := by simp [hasS]

set_option maxRecDepth 1000000 in
set_option maxHeartbeats 4000000 in
theorem indexS_any (A : Option Addr) (n c : Nat) (l : List ByteArray) (hn : l.length = n) (hl : n ≤ 9223372036854775807) (x : ByteArray) (w : World) (h : Has w w.heap.size A (strCs l)) :
    Calls Tryz.prog 49 #[.slice A n c, .string x] w (RV fun v w' => (∃ i : Int, v = .int .i64 i ∧ (0 ≤ i ↔ x ∈ l) ∧ i ≤ n ∧ (0 ≤ i → i < n ∧ at_ l i.toNat = x)) ∧ w' = w) := by
  have Hn := Lib.hid hn; clear hn
  go_enter Tryz.func49, Tryz.ntmps49
  go_wp2_with fail
  go_loopw [8] (fun a wr => ∃ i : Nat, i ≤ n ∧ a = .int .i64 (i : Nat) ∧ Hid (x ∉ l.take i) ∧ wr = w) (fun a _ => n + 5 - (intOf a).toNat)
  case atStart => exact ⟨0, by omega, rfl, Lib.hid (by simp), rfl⟩
  case round =>
    obtain ⟨i, hi, rfl, hq, rfl⟩ := hrel
    by_cases hlt : (i : Int) < (n : Int)
    · have hil : i < l.length := by rw [Hn.out]; omega
      obtain ⟨ad, rfl, had, c0⟩ := h.at (strCsI_at hil)
      have ht := Lib.hid (take_at (l := l) (k := i) hil)
      have hmem := Lib.hid (at_mem hil)
      obtain ⟨y, hy⟩ : ∃ y, at_ l i = y := ⟨_, rfl⟩
      rw [hy] at c0 ht hmem
      have Hy := Lib.hid hy
      clear hy hil
      by_cases e : x = y
      · subst e
        have E := Lib.hid (show (0 ≤ (i : Int) ↔ x ∈ l) from ⟨fun _ => hmem.out, fun _ => by omega⟩)
        have hb : (x.toList == x.toList) = true := by rw [beq_iff_eq]
        go_wp2_with fail
        go_ret
        exact RV.mk ⟨⟨i, rfl, E.out, by omega, fun _ => ⟨hlt, by rw [Int.toNat_natCast]; exact Hy.out⟩⟩, rfl⟩
      · have hb : (x.toList == y.toList) = false := by rw [beq_eq_false_iff_ne]; exact fun g => e (bytes_ext g)
        have E := Lib.hid (show x ∉ l.take (i + 1) by rw [ht.out, List.mem_append, List.mem_singleton]; exact fun g => g.elim hq.out e)
        clear e
        go_wp2_with fail
        go_roundw
        case rel => exact ⟨i + 1, by omega, by go_num, E, (by first | rfl | trivial)⟩
        case measure => simp [intOf]; omega
    · obtain rfl : i = n := by omega
      have E := Lib.hid (show (0 ≤ (-1 : Int) ↔ x ∈ l) from ⟨fun g => absurd g (by decide), fun g => absurd (by rw [← Hn.out, List.take_length]; exact g) hq.out⟩)
      go_wp2_with fail
      go_ret
      exact RV.mk ⟨⟨-1, rfl, E.out, by omega, fun g => absurd g (by decide)⟩, rfl⟩
set_option maxRecDepth 1000000 in
theorem containsS_any (A : Option Addr) (n c : Nat) (l : List ByteArray) (hn : l.length = n) (hl : n ≤ 9223372036854775807) (x : ByteArray) (w : World) (h : Has w w.heap.size A (strCs l)) :
    Calls Tryz.prog 28 #[.slice A n c, .string x] w (R1 (.bool (hasS x l)) (fun w' => w' = w)) := by
  have hi := Lib.hid (indexS_any A n c l hn hl x w h)
  clear h hn
  go_enter Tryz.func28, Tryz.ntmps28
  go_wp2_with fail
  refine hi.out.mono ?_
  rintro e w1 ⟨v, rfl, ⟨i, rfl, hx, hin, _⟩, hw⟩
  rw [hw]
  have E := Lib.hid (show decide (i ≥ 0) = hasS x l by
    by_cases h0 : (0 : Int) ≤ i
    · rw [(hasS_iff x l).2 (hx.1 h0)]; exact decide_eq_true h0
    · rw [Bool.eq_false_iff.2 (fun g => h0 (hx.2 ((hasS_iff x l).1 g)))]; exact decide_eq_false h0)
  go_wp2_with fail
  go_ret
  exact R1.mk (congrArg Value.bool E.out) rfl
end Go.Proofs.YtnicbhmeigpjkaaGreatDoor
namespace Go.Proofs.YtnicbhmeigpjkaaGreatDoor
open Go.RowKit

theorem eq_at_S {l m : List ByteArray} (hl : l.length = m.length) (h : ∀ i, i < l.length → at_ l i = at_ m i) : l = m := by
  apply List.ext_getElem hl
  intro i h1 h2
  have := h i h1
  rwa [at_eq h1, at_eq h2] at this
theorem nameS_eq (a b : ByteArray) : (a.toList == b.toList) = decide (a = b) := by
  by_cases h : a = b
  · rw [h, decide_eq_true rfl, beq_iff_eq]
  · rw [decide_eq_false h, beq_eq_false_iff_ne]; exact fun e => h (bytes_ext e)

set_option maxRecDepth 1000000 in
set_option maxHeartbeats 1000000 in
theorem equalS_any (A B : Option Addr) (n m c d : Nat) (l k : List ByteArray) (hn : l.length = n) (hm : k.length = m) (hl : n ≤ maxLen) (hk : m ≤ maxLen) (w : World) (h : Has w w.heap.size A (strCs l)) (h' : Has w w.heap.size B (strCs k)) :
    Calls Tryz.prog 42 #[.slice A n c, .slice B m d] w (R1 (.bool (decide (l = k))) (Drawn w)) := by
  unfold maxLen at hl hk
  by_cases hnm : n = m
  · subst hnm
    have Hn := Lib.hid hn
    have Hm := Lib.hid hm
    clear hn hm
    go_enter Tryz.func42, Tryz.ntmps42
    go_wp2
    go_loopw [13] (fun i wr => ∃ j : Nat, j ≤ n ∧ i = .int .i64 (j : Nat) ∧ Hid (∀ q, q < j → at_ l q = at_ k q) ∧ Drawn w wr) (fun i _ => n - (intOf i).toNat)
    case atStart => exact ⟨0, by omega, rfl, Lib.hid (fun q hq => by omega), Drawn.refl _⟩
    case round =>
      obtain ⟨j, hj, rfl, heq, nd, rfl⟩ := hrel
      by_cases hlt : (j : Int) < (n : Int)
      · obtain ⟨ad, rfl, _, c1⟩ := h.at (strCsI_at (show j < l.length by rw [Hn.out]; omega))
        obtain ⟨bd, rfl, _, c3⟩ := h'.at (strCsI_at (show j < k.length by rw [Hm.out]; omega))
        have q1 : (0 : Int) ≤ (j : Int) := by omega
        obtain ⟨x, hx⟩ : ∃ x, at_ l j = x := ⟨_, rfl⟩
        obtain ⟨y, hy⟩ : ∃ y, at_ k j = y := ⟨_, rfl⟩
        rw [hx] at c1
        rw [hy] at c3
        have Hx := Lib.hid hx
        have Hy := Lib.hid hy
        clear hx hy
        by_cases e : x = y
        · subst e
          have f1 : (x.toList == x.toList) = true := by rw [beq_iff_eq]
          have f2 : (x.toList != x.toList) = false := by simp
          go_wp2
          go_quiet (fail)
          go_wp2
          go_roundw
          case rel => exact ⟨j + 1, by omega, by go_num, Lib.hid (fun q hq => by rcases Nat.lt_or_ge q j with h1 | h1; exact heq.out q h1; rw [show q = j by omega, Hx.out, Hy.out]), _, rfl⟩
          case measure => simp [intOf]; omega
        · have f1 : (x.toList == y.toList) = false := by rw [nameS_eq, decide_eq_false e]
          have f2 : (x.toList != y.toList) = true := by unfold bne; rw [nameS_eq, decide_eq_false e]; rfl
          have E := Lib.hid e; clear e
          go_wp2
          go_quiet (fail)
          go_wp2
          go_ret
          exact R1.mk (bool_eq (by rw [eq_comm, decide_eq_false_iff_not]; intro h1; exact E.out (by rw [← Hx.out, ← Hy.out, h1]))) (Drawn.two _ _ _)
      · go_wp2
        go_ret
        exact R1.mk (bool_eq (by rw [eq_comm, decide_eq_true_iff]; exact eq_at_S (by rw [Hn.out, Hm.out]) (fun i hi => heq.out i (by rw [Hn.out] at hi; omega)))) ⟨_, rfl⟩
  · have f0 : ((n : Int) != (m : Int)) = true := by rw [bne_iff_ne]; omega
    have E := Lib.hid hnm; clear hnm
    go_enter Tryz.func42, Tryz.ntmps42
    go_wp2
    go_ret
    exact R1.mk (bool_eq (by rw [eq_comm, decide_eq_false_iff_not]; intro h1; exact E.out (by rw [← hn, ← hm, h1]))) (Drawn.refl _)
end Go.Proofs.YtnicbhmeigpjkaaGreatDoor
