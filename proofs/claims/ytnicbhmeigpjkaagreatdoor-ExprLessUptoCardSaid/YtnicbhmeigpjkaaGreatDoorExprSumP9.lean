/- Texts of the proof of ExprSum, joined (by merge.py). Conditions: each theorem's own hypotheses. -/
import Derived.Test.YtnicbhmeigpjkaaGreatDoorExprSumP6
import Derived.Test.YtnicbhmeigpjkaaGreatDoorExprSumP8
namespace Go.Proofs.YtnicbhmeigpjkaaGreatDoor
open Go.RowKit

theorem strCsI_at {l : List ByteArray} {k : Nat} (h : k < l.length) : (strCs l)[k]? = some (.string (at_ l k)) := by
  have := flat_at (f := strC) (C := 1) (fun _ => rfl) h (r := 0) (by decide)
  rw [Nat.mul_one, Nat.add_zero] at this
  exact this
def hasS (x : ByteArray) (l : List ByteArray) : Bool := l.any fun y => decide (x = y)
theorem hasS_iff (x : ByteArray) (l : List ByteArray) : hasS x l = true ↔ x ∈ l := by simp [hasS]

set_option maxRecDepth 1000000 in
set_option maxHeartbeats 4000000 in
theorem indexS_any (A : Option Addr) (n c : Nat) (l : List ByteArray) (hn : l.length = n) (hl : n ≤ 9223372036854775807) (x : ByteArray) (w : World) (h : Has w w.heap.size A (strCs l)) :
    Calls Tryz.prog 49 #[.slice A n c, .string x] w (RV fun v w' => (∃ i : Int, v = .int .i64 i ∧ (0 ≤ i ↔ x ∈ l) ∧ i ≤ n ∧ (0 ≤ i → i < n ∧ at_ l i.toNat = x)) ∧ w' = w) := by
  have Hn := Lib.hid hn; clear hn
  go_enter Tryz.func49, Tryz.ntmps49
  go_wp2_with fail
  go_loopw [8] (fun a wr => ∃ i : Nat, i ≤ n ∧ a = .int .i64 (i : Nat) ∧ Hid (x ∉ l.take i) ∧ wr = w) (fun a _ => n + 5 - (intOf a).toNat)
  case atStart => exact ⟨0, by omega, rfl, Lib.hid (by simp), rfl⟩
  case round =>
    obtain ⟨i, hi, rfl, hq, rfl⟩ := hrel
    by_cases hlt : (i : Int) < (n : Int)
    · have hil : i < l.length := by rw [Hn.out]; omega
      obtain ⟨ad, rfl, had, c0⟩ := h.at (strCsI_at hil)
      have ht := Lib.hid (take_at (l := l) (k := i) hil)
      have hmem := Lib.hid (at_mem hil)
      obtain ⟨y, hy⟩ : ∃ y, at_ l i = y := ⟨_, rfl⟩
      rw [hy] at c0 ht hmem
      have Hy := Lib.hid hy
      clear hy hil
      by_cases e : x = y
      · subst e
        have E := Lib.hid (show (0 ≤ (i : Int) ↔ x ∈ l) from ⟨fun _ => hmem.out, fun _ => by omega⟩)
        have hb : (x.toList == x.toList) = true := by rw [beq_iff_eq]
        go_wp2_with fail
        go_ret
        exact RV.mk ⟨⟨i, rfl, E.out, by omega, fun _ => ⟨hlt, by rw [Int.toNat_natCast]; exact Hy.out⟩⟩, rfl⟩
      · have hb : (x.toList == y.toList) = false := by rw [beq_eq_false_iff_ne]; exact fun g => e (bytes_ext g)
        have E := Lib.hid (show x ∉ l.take (i + 1) by rw [ht.out, List.mem_append, List.mem_singleton]; exact fun g => g.elim hq.out e)
        clear e
        go_wp2_with fail
        go_roundw
        case rel => exact ⟨i + 1, by omega, by go_num, E, (by first | rfl | trivial)⟩
        case measure => simp [intOf]; omega
    · obtain rfl : i = n := by omega
      have E := Lib.hid (show (0 ≤ (-1 : Int) ↔ x ∈ l) from ⟨fun g => absurd g (by decide), fun g => absurd (by rw [← Hn.out, List.take_length]; exact g) hq.out⟩)
      go_wp2_with fail
      go_ret
      exact RV.mk ⟨⟨-1, rfl, E.out, by omega, fun g => absurd g (by decide)⟩, rfl⟩
set_option maxRecDepth 1000000 in
theorem containsS_any (A : Option Addr) (n c : Nat) (l : List ByteArray) (hn : l.length = n) (hl : n ≤ 9223372036854775807) (x : ByteArray) (w : World) (h : Has w w.heap.size A (strCs l)) :
    Calls Tryz.prog 28 #[.slice A n c, .string x] w (R1 (.bool (hasS x l)) (fun w' => w' = w)) := by
  have hi := Lib.hid (indexS_any A n c l hn hl x w h)
  clear h hn
  go_enter Tryz.func28, Tryz.ntmps28
  go_wp2_with fail
  refine hi.out.mono ?_
  rintro e w1 ⟨v, rfl, ⟨i, rfl, hx, hin, _⟩, hw⟩
  rw [hw]
  have E := Lib.hid (show decide (i ≥ 0) = hasS x l by
    by_cases h0 : (0 : Int) ≤ i
    · rw [(hasS_iff x l).2 (hx.1 h0)]; exact decide_eq_true h0
    · rw [Bool.eq_false_iff.2 (fun g => h0 (hx.2 ((hasS_iff x l).1 g)))]; exact decide_eq_false h0)
  go_wp2_with fail
  go_ret
  exact R1.mk (congrArg Value.bool E.out) rfl
end Go.Proofs.YtnicbhmeigpjkaaGreatDoor
