/- What slices.Equal tells of two rows of labels, of matches, that hold the same. Conditions: none beyond each theorem's own hypotheses. -/
import Derived.Test.YtmfndpkhcejffaaGreatDoorLbChk
import Derived.BigQuiet
import Derived.Laws.StructEq
namespace Go.Proofs.YtmfndpkhcejffaaGreatDoor
open Go.RowKit

theorem eqLabS (a b : ByteArray) (w : World) : (Op.equalIn 10000 42 (.agg #[.string a, .string b]) (.agg #[.string a, .string b])).run Tryz.prog w = .ok true w := by
  have u3 := Tryz.underlying9
  have a3 := Tryz.isAgg9
  have z3 := Tryz.sizeOf9
  have hS : Tryz.prog.underlying 42 = some (.struct (Tryz.prog.fieldsOf 42)) := by kernel_rfl
  have hp : Tryz.prog.stoodInHeld 42 = false := by kernel_rfl
  rw [show (10000 : Nat) = 9999 + 1 from rfl, run_equalIn_agg w 9999 42 _ _ hS hp]
  simp only [Program.fieldsOf, Tryz.underlying42]
  go_simp
theorem eqMtS (q : Int) (a b : ByteArray) (w : World) : (Op.equalIn 10000 36 (.agg #[.int .i64 q, .string a, .string b]) (.agg #[.int .i64 q, .string a, .string b])).run Tryz.prog w = .ok true w := by
  have u3 := Tryz.underlying9
  have a3 := Tryz.isAgg9
  have z3 := Tryz.sizeOf9
  have u4 := Tryz.underlying3
  have a4 := Tryz.isAgg3
  have z4 := Tryz.sizeOf3
  have hS : Tryz.prog.underlying 36 = some (.struct (Tryz.prog.fieldsOf 36)) := by kernel_rfl
  have hp : Tryz.prog.stoodInHeld 36 = false := by kernel_rfl
  rw [show (10000 : Nat) = 9999 + 1 from rfl, run_equalIn_agg w 9999 36 _ _ hS hp]
  simp only [Program.fieldsOf, Tryz.underlying36]
  go_simp

set_option maxRecDepth 1000000 in
set_option maxHeartbeats 2000000 in
theorem equalLab_any (A B : Option Addr) (n c d : Nat) (L : List Lab) (hn : L.length = n) (hl : n ≤ maxLen) (w : World) (h : Has w w.heap.size A (labCs L)) (h' : Has w w.heap.size B (labCs L)) :
    Calls Tryz.prog 14 #[.slice A n c, .slice B n d] w (R1 (.bool true) (Below w.heap.size w)) := by
  unfold maxLen at hl
  have hA := Lib.hid h
  have hB := Lib.hid h'
  have Hn := Lib.hid hn
  have hq := eqLabS
  clear h h' hn
  go_enter Tryz.func14, Tryz.ntmps14
  go_wp2_with fail
  go_loopw [13] (fun i wr => ∃ k : Nat, k ≤ n ∧ i = .int .i64 (k : Nat) ∧ Below w.heap.size w wr) (fun i _ => n + 5 - (intOf i).toNat)
  case atStart => exact ⟨0, by omega, rfl, Below.refl _ _⟩
  case round =>
    obtain ⟨k, hk, rfl, hbr⟩ := hrel
    by_cases hlt : (k : Int) < (n : Int)
    · have hkL : k < L.length := by rw [Hn.out]; omega
      obtain ⟨ad, rfl, _, c0⟩ := (hA.out.next hbr).at (labCs_0 hkL)
      obtain ⟨bd, rfl, _, d0⟩ := (hB.out.next hbr).at (labCs_0 hkL)
      obtain ⟨ad', e', _, c1⟩ := (hA.out.next hbr).at (labCs_1 hkL)
      injection e' with e'
      subst e'
      have c1 := cell_off c1 (by decide)
      obtain ⟨bd', e', _, d1⟩ := (hB.out.next hbr).at (labCs_1 hkL)
      injection e' with e'
      subst e'
      have d1 := cell_off d1 (by decide)
      obtain ⟨x, hx⟩ : ∃ x, at_ L k = x := ⟨_, rfl⟩
      rw [hx] at c0 d0 c1 d1
      obtain ⟨nm, v⟩ := x
      simp only [] at c0 d0 c1 d1
      have q1 : (0 : Int) ≤ (k : Int) := by omega
      clear hx
      go_wp2_with fail
      go_quiet (fail)
      go_wp2_with fail
      go_roundw
      case rel => exact ⟨k + 1, by omega, by go_num, below_drewN hbr _⟩
      case measure => simp [intOf]; omega
    · go_wp2_with fail
      go_ret
      exact R1.mk rfl hbr

set_option maxRecDepth 1000000 in
set_option maxHeartbeats 2000000 in
theorem equalMt_any (A B : Option Addr) (n c d : Nat) (L : List Mt) (hn : L.length = n) (hl : n ≤ maxLen) (w : World) (h : Has w w.heap.size A (mtCs L)) (h' : Has w w.heap.size B (mtCs L)) :
    Calls Tryz.prog 10 #[.slice A n c, .slice B n d] w (R1 (.bool true) (Below w.heap.size w)) := by
  unfold maxLen at hl
  have hA := Lib.hid h
  have hB := Lib.hid h'
  have Hn := Lib.hid hn
  have hq := eqMtS
  clear h h' hn
  go_enter Tryz.func10, Tryz.ntmps10
  go_wp2_with fail
  go_loopw [13] (fun i wr => ∃ k : Nat, k ≤ n ∧ i = .int .i64 (k : Nat) ∧ Below w.heap.size w wr) (fun i _ => n + 5 - (intOf i).toNat)
  case atStart => exact ⟨0, by omega, rfl, Below.refl _ _⟩
  case round =>
    obtain ⟨k, hk, rfl, hbr⟩ := hrel
    by_cases hlt : (k : Int) < (n : Int)
    · have hkL : k < L.length := by rw [Hn.out]; omega
      obtain ⟨ad, rfl, _, c0⟩ := (hA.out.next hbr).at (mtCs_0 hkL)
      obtain ⟨bd, rfl, _, d0⟩ := (hB.out.next hbr).at (mtCs_0 hkL)
      obtain ⟨ad', e', _, c1⟩ := (hA.out.next hbr).at (mtCs_1 hkL)
      injection e' with e'
      subst e'
      have c1 := cell_off c1 (by decide)
      obtain ⟨ad', e', _, c2⟩ := (hA.out.next hbr).at (mtCs_2 hkL)
      injection e' with e'
      subst e'
      have c2 := cell_off c2 (by decide)
      obtain ⟨bd', e', _, d1⟩ := (hB.out.next hbr).at (mtCs_1 hkL)
      injection e' with e'
      subst e'
      have d1 := cell_off d1 (by decide)
      obtain ⟨bd', e', _, d2⟩ := (hB.out.next hbr).at (mtCs_2 hkL)
      injection e' with e'
      subst e'
      have d2 := cell_off d2 (by decide)
      obtain ⟨x, hx⟩ : ∃ x, at_ L k = x := ⟨_, rfl⟩
      rw [hx] at c0 d0 c1 d1 c2 d2
      obtain ⟨q, nm, v⟩ := x
      simp only [] at c0 d0 c1 d1 c2 d2
      have q1 : (0 : Int) ≤ (k : Int) := by omega
      clear hx
      go_wp2_with fail
      go_quiet (fail)
      go_wp2_with fail
      go_roundw
      case rel => exact ⟨k + 1, by omega, by go_num, below_drewN hbr _⟩
      case measure => simp [intOf]; omega
    · go_wp2_with fail
      go_ret
      exact R1.mk rfl hbr
end Go.Proofs.YtmfndpkhcejffaaGreatDoor
