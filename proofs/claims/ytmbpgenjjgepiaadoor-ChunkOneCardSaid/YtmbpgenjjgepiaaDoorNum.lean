/- Numbers as bytes: zigzag, and the bytes of a number, as plain functions with their laws. No program in sight. -/
import Derived.Test.YtmbpgenjjgepiaaDoorKit
namespace Go.Proofs.YtmbpgenjjgepiaaDoor
open Go.RowKit

def zigN (n : Int) : Nat := if 0 ≤ n then (2 * n).toNat else (-2 * n - 1).toNat
def zagN (u : Nat) : Int := if u % 2 = 0 then (u / 2 : Nat) else -((u / 2 : Nat) : Int) - 1
theorem zigN_lt {n : Int} (h : -9223372036854775808 ≤ n ∧ n ≤ 9223372036854775807) : zigN n < 18446744073709551616 := by unfold zigN; split <;> omega
theorem zag_zig (n : Int) : zagN (zigN n) = n := by unfold zagN zigN; split <;> split <;> omega
theorem zig_zag (u : Nat) : zigN (zagN u) = u := by unfold zagN zigN; split <;> split <;> omega
theorem zagN_in {u : Nat} (h : u < 18446744073709551616) : -9223372036854775808 ≤ zagN u ∧ zagN u ≤ 9223372036854775807 := by unfold zagN; split <;> omega

theorem wrap_u64_nat' (x : Nat) : IntKind.u64.wrap (x : Int) = ((x % 18446744073709551616 : Nat) : Int) := by rw [IntKind.wrap_u64]; omega
/-- all ones -/
theorem xor_ones (x : Nat) (h : x < 18446744073709551616) : x ^^^ 18446744073709551615 = 18446744073709551615 - x := by
  have h1 : BitVec.ofNat 64 x ^^^ BitVec.allOnes 64 = ~~~ BitVec.ofNat 64 x := BitVec.xor_allOnes
  have h2 := congrArg BitVec.toNat h1
  simp only [BitVec.toNat_xor, BitVec.toNat_ofNat, BitVec.toNat_allOnes, BitVec.toNat_not] at h2
  rw [Nat.mod_eq_of_lt (by simpa using h)] at h2
  simpa using h2
theorem zig_eq {n : Int} (h : -9223372036854775808 ≤ n ∧ n ≤ 9223372036854775807) :
    bits BinOp.xor IntKind.u64 (IntKind.u64.wrap (IntKind.u64.wrap n * 2)) (IntKind.u64.wrap (n / 9223372036854775808)) = ((zigN n : Nat) : Int) := by
  unfold zigN
  by_cases h0 : 0 ≤ n
  · have e1 : IntKind.u64.wrap (n / 9223372036854775808) = ((0 : Nat) : Int) := by rw [IntKind.wrap_u64]; omega
    have e2 : IntKind.u64.wrap (IntKind.u64.wrap n * 2) = (((2 * n).toNat : Nat) : Int) := by rw [IntKind.wrap_u64, IntKind.wrap_u64]; omega
    rw [e1, e2, bits_xor_u64_nat _ _ (by omega) (by decide), if_pos h0, Nat.xor_zero]
  · have e1 : IntKind.u64.wrap (n / 9223372036854775808) = ((18446744073709551615 : Nat) : Int) := by rw [IntKind.wrap_u64]; omega
    have e2 : IntKind.u64.wrap (IntKind.u64.wrap n * 2) = (((2 * n + 18446744073709551616).toNat : Nat) : Int) := by rw [IntKind.wrap_u64, IntKind.wrap_u64]; omega
    rw [e1, e2, bits_xor_u64_nat _ _ (by omega) (by omega), xor_ones _ (by omega), if_neg h0]
    omega
theorem xor_i64 (a : Nat) (b : Int) (r : Nat) (ha : a < 18446744073709551616) (hb : (BitVec.ofInt 64 b).toNat = r) : bits BinOp.xor IntKind.i64 (a : Int) b = IntKind.i64.wrap ((a ^^^ r : Nat) : Int) := by
  have h1 : (BitVec.ofInt 64 (a : Int)).toNat = a := by
    rw [BitVec.ofInt_natCast, BitVec.toNat_ofNat]; exact Nat.mod_eq_of_lt (by omega)
  show IntKind.i64.wrap ((BitVec.ofInt 64 (a : Int) ^^^ BitVec.ofInt 64 b).toNat : Int) = _
  rw [BitVec.toNat_xor, h1, hb]
theorem and_one (u : Nat) (h : u < 18446744073709551616) : bits BinOp.and IntKind.u64 (u : Int) 1 = ((u % 2 : Nat) : Int) := by
  have := bits_and_u64_nat u 1 h (by decide)
  rw [Nat.and_one_is_mod] at this
  exact this
theorem zag_eq {u : Nat} (h : u < 18446744073709551616) :
    bits BinOp.xor IntKind.i64 ((u : Int) / 2) (wrap64 (-wrap64 (bits BinOp.and IntKind.u64 (u : Int) 1))) = zagN u := by
  unfold zagN
  rw [and_one u h, show (u : Int) / 2 = ((u / 2 : Nat) : Int) from by omega]
  rcases Nat.mod_two_eq_zero_or_one u with e | e
  · rw [e, if_pos rfl, show wrap64 (-wrap64 ((0 : Nat) : Int)) = 0 from by decide +kernel, xor_i64 _ 0 0 (by omega) (by decide), Nat.xor_zero]
    exact IntWalk.i64_in _ (by omega)
  · rw [e, if_neg (by omega), show wrap64 (-wrap64 ((1 : Nat) : Int)) = -1 from by decide +kernel, xor_i64 _ (-1) 18446744073709551615 (by omega) (by decide), xor_ones _ (by omega), IntKind.wrap_i64]
    omega

/-! ### The bytes of a number -/
def putL (u : Nat) : List Nat := if u < 128 then [u] else (u % 128 + 128) :: putL (u / 128)
termination_by u
decreasing_by omega
theorem putL_small {u : Nat} (h : u < 128) : putL u = [u] := by rw [putL, if_pos h]
theorem putL_big {u : Nat} (h : 128 ≤ u) : putL u = (u % 128 + 128) :: putL (u / 128) := by rw [putL, if_neg (by omega)]
theorem putL_bytes (u : Nat) : Bytes (putL u) := by
  induction u using Nat.strongRecOn with
  | _ u ih =>
    intro b hb
    rcases Nat.lt_or_ge u 128 with h | h
    · rw [putL_small h] at hb
      simp at hb
      omega
    · rw [putL_big h] at hb
      rcases List.mem_cons.1 hb with rfl | hb
      · omega
      · exact ih _ (by omega) b hb
theorem putL_len_mono {a b : Nat} (h : a ≤ b) : (putL a).length ≤ (putL b).length := by
  induction b using Nat.strongRecOn generalizing a with
  | _ b ih =>
    rcases Nat.lt_or_ge a 128 with h1 | h1
    · rw [putL_small h1]
      rcases Nat.lt_or_ge b 128 with h2 | h2
      · rw [putL_small h2]; exact Nat.le_refl _
      · rw [putL_big h2]; simp
    · rw [putL_big h1, putL_big (show 128 ≤ b by omega)]
      have := ih (b / 128) (by omega) (show a / 128 ≤ b / 128 by omega)
      simpa using this
theorem putL_len {u : Nat} (k : Nat) (h : u < 128 ^ (k + 1)) : (putL u).length ≤ k + 1 := by
  induction k generalizing u with
  | zero => rw [putL_small (by omega)]; simp
  | succ k ih =>
    rcases Nat.lt_or_ge u 128 with h1 | h1
    · rw [putL_small h1]; simp
    · rw [putL_big h1]
      have : u / 128 < 128 ^ (k + 1) := by
        apply Nat.div_lt_of_lt_mul
        rw [Nat.pow_succ, Nat.mul_comm] at h
        exact h
      have := ih this
      simp only [List.length_cons]
      omega
theorem putL_len10 {u : Nat} (h : u < 18446744073709551616) : (putL u).length ≤ 10 := putL_len 9 (Nat.lt_trans h (by decide))
theorem putL_pos (u : Nat) : 1 ≤ (putL u).length := by
  rw [putL]; split <;> simp

theorem or128 (u : Nat) : bits BinOp.or IntKind.u8 ((u : Int) % 256) 128 = ((u % 128 + 128 : Nat) : Int) := by
  have h : (u : Int) % 256 = ((u % 256 : Nat) : Int) := by omega
  rw [h, show (128 : Int) = ((128 : Nat) : Int) from rfl, u8_or_nat _ _ (by omega) (by omega)]
  congr 1
  have : ∀ x : Fin 256, x.val ||| 128 = 128 + x.val % 128 := by decide +kernel
  have := this ⟨u % 256, by omega⟩
  simp only at this
  omega
end Go.Proofs.YtmbpgenjjgepiaaDoor
