/- What Take of package bits computes. Conditions: bytes are bytes. -/
import Derived.Test.YtmbpgenjjgepiaaDoorNum
namespace Go.Proofs.YtmbpgenjjgepiaaDoor
open Go.RowKit

def takeGo : Nat → Nat → List Nat → Nat × Nat × Nat
  | _, _, [] => (0, 0, 3)
  | i, u, b :: r => if (i = 9 ∧ 1 < b) ∨ (0 < i ∧ b = 0) then (0, 0, 4) else if b < 128 then (u + b % 128 * 128 ^ i, i + 1, 0) else takeGo (i + 1) (u + b % 128 * 128 ^ i) r
def takeN (l : List Nat) : Nat × Nat × Nat := takeGo 0 0 l
def R3 (x : Nat × Nat × Nat) : Value := .tuple #[.int .u64 (x.1 : Nat), .int .i64 (x.2.1 : Nat), .int .i64 (x.2.2 : Nat)]

theorem R3.of {a b c : Int} {x : Nat × Nat × Nat} (ha : a = (x.1 : Nat)) (hb : b = (x.2.1 : Nat)) (hc : c = (x.2.2 : Nat)) : Value.tuple #[.int .u64 a, .int .i64 b, .int .i64 c] = R3 x := by rw [ha, hb, hc]; rfl
theorem pow128 (k : Nat) : (128 : Nat) ^ k = 2 ^ (7 * k) := by rw [Nat.pow_mul]
theorem or_add {u x k : Nat} (hu : u < 128 ^ k) : u ||| x * 128 ^ k = u + x * 128 ^ k := by
  rw [pow128] at *
  have := Nat.two_pow_add_eq_or_of_lt (i := 7 * k) (b := u) hu x
  rw [Nat.mul_comm, Nat.add_comm] at this
  rw [Nat.or_comm, this]
theorem and127 (b : Nat) (h : b < 256) : bits .and .u8 (b : Int) 127 = ((b % 128 : Nat) : Int) := by
  rw [show (127 : Int) = ((127 : Nat) : Int) from rfl, u8_and_nat _ _ h (by omega), Go.nat_mask7]

set_option maxRecDepth 100000 in
theorem take_step {u b k : Nat} (hk : k ≤ 9) (hb : b < 256) (h9 : k = 9 → b ≤ 1) (hu : u < 128 ^ k) :
    bits .or .u64 (u : Int) (IntKind.u64.wrap (((b % 128 : Nat) : Int) * 2 ^ (7 * k))) = ((u + b % 128 * 128 ^ k : Nat) : Int) := by
  have hx : b % 128 * 128 ^ k < 18446744073709551616 := by
    rcases Nat.lt_or_ge k 9 with h1 | h1
    · have h2 : 128 ^ k ≤ 128 ^ 8 := Nat.pow_le_pow_right (by decide) (by omega)
      have h3 : b % 128 * 128 ^ k ≤ 127 * 128 ^ 8 := Nat.mul_le_mul (by omega) h2
      have h4 : 127 * 128 ^ 8 < 18446744073709551616 := by decide +kernel
      exact Nat.lt_of_le_of_lt h3 h4
    · obtain rfl : k = 9 := by omega
      have := h9 rfl
      have h3 : b % 128 * 128 ^ 9 ≤ 1 * 128 ^ 9 := Nat.mul_le_mul (by omega) (Nat.le_refl _)
      have h4 : 1 * 128 ^ 9 < 18446744073709551616 := by decide +kernel
      exact Nat.lt_of_le_of_lt h3 h4
  have hu2 : u < 18446744073709551616 := by
    have h2 : 128 ^ k ≤ 128 ^ 9 := Nat.pow_le_pow_right (by decide) hk
    have h3 : (128 : Nat) ^ 9 < 18446744073709551616 := by decide +kernel
    exact Nat.lt_of_lt_of_le hu (Nat.le_trans h2 (Nat.le_of_lt h3))
  have e : ((b % 128 : Nat) : Int) * 2 ^ (7 * k) = ((b % 128 * 128 ^ k : Nat) : Int) := by
    rw [pow128, Int.natCast_mul, Int.natCast_pow]; rfl
  rw [e, IntKind.wrap_u64, show ((b % 128 * 128 ^ k : Nat) : Int) % 18446744073709551616 = ((b % 128 * 128 ^ k : Nat) : Int) from Int.emod_eq_of_lt (by omega) (by omega), bits_or_u64_nat _ _ hu2 hx, or_add hu]
theorem take_step' {u b k : Nat} (hk : k ≤ 9) (hb : b < 256) (h9 : k = 9 → b ≤ 1) (hu : u < 128 ^ k) :
    bits .or .u64 (u : Int) (IntKind.u64.wrap (IntKind.u64.wrap (bits .and .u8 (b : Int) 127) * 2 ^ (7 * k))) = ((u + b % 128 * 128 ^ k : Nat) : Int) := by
  rw [and127 b hb, show IntKind.u64.wrap ((b % 128 : Nat) : Int) = ((b % 128 : Nat) : Int) from IntWalk.u64_in _ (by omega)]
  exact take_step hk hb h9 hu
theorem take_next {u b k : Nat} (hu : u < 128 ^ k) : u + b % 128 * 128 ^ k < 128 ^ (k + 1) := by
  have h1 : b % 128 * 128 ^ k ≤ 127 * 128 ^ k := Nat.mul_le_mul_right _ (by omega)
  rw [Nat.pow_succ]
  omega
set_option maxRecDepth 1000000 in
set_option maxHeartbeats 1000000 in
theorem take_any (A : Option Addr) (c : Nat) (l : List Nat) (hl : l.length ≤ maxLen) (hb : Bytes l) (w : World) (h : Has w w.heap.size A (u8s l)) :
    Calls Tryd.prog 28 #[.slice A l.length c] w (R1 (R3 (takeN l)) (Drawn w)) := by
  unfold maxLen at hl
  go_enter Tryd.func28, Tryd.ntmps28
  go_wp2
  go_loopw [5, 6] (fun x i wr => ∃ (k u : Nat), k ≤ l.length ∧ k ≤ 9 ∧ i = .int .i64 (k : Nat) ∧ x = .int .u64 (u : Nat) ∧ u < 128 ^ k ∧ takeN l = takeGo k u (l.drop k) ∧ Drawn w wr) (fun _ i _ => l.length - (intOf i).toNat)
  case atStart => exact ⟨0, 0, by omega, by omega, rfl, rfl, by decide, rfl, Drawn.refl _⟩
  case round =>
    obtain ⟨k, u, hk, hk9, rfl, rfl, hu, ht, n, rfl⟩ := hrel
    by_cases hlt : (k : Int) < (l.length : Int)
    · obtain ⟨ad, rfl, _, hc⟩ := h.at (u8s_at (show k < l.length by omega))
      have hbk := hb.at k
      have hd : l.drop k = at_ l k :: l.drop (k + 1) := drop_at (by omega)
      rw [hd] at ht
      have Hu := Lib.hid hu; clear hu
      have Ha := Lib.hid (and127 (at_ l k) hbk)
      have q1 : 0 ≤ (at_ l k : Nat) := by omega
      by_cases hf : (k = 9 ∧ 1 < at_ l k) ∨ (0 < k ∧ at_ l k = 0)
      · have Ht := Lib.hid (ht.trans (by rw [takeGo, if_pos hf])); clear ht
        rcases hf with ⟨h9, h1⟩ | ⟨h0, h1⟩
        · have f1 : ((k : Int) == 9) = true := by rw [beq_iff_eq]; omega
          have f2 : (1 : Int) < ((at_ l k : Nat) : Int) := by omega
          clear h9 h1
          go_wp2
          go_ret3
          exact R1.mk (by rw [Ht.out]; rfl) ⟨_, rfl⟩
        · have f2 : ((at_ l k : Nat) : Int) ≤ 1 := by omega
          have f3 : (0 : Int) < (k : Int) := by omega
          have f4 : (((at_ l k : Nat) : Int) == 0) = true := by rw [beq_iff_eq]; omega
          clear h0 h1
          by_cases h9 : k = 9
          · have f1 : ((k : Int) == 9) = true := by rw [beq_iff_eq]; omega
            clear h9
            go_wp2
            go_ret3
            exact R1.mk (by rw [Ht.out]; rfl) ⟨_, rfl⟩
          · have f1 : ((k : Int) == 9) = false := by rw [beq_eq_false_iff_ne]; omega
            clear h9
            go_wp2
            go_ret3
            exact R1.mk (by rw [Ht.out]; rfl) ⟨_, rfl⟩
      · have hr : takeN l = if at_ l k < 128 then (u + at_ l k % 128 * 128 ^ k, k + 1, 0) else takeGo (k + 1) (u + at_ l k % 128 * 128 ^ k) (l.drop (k + 1)) := ht.trans (by rw [takeGo, if_neg hf])
        have Hs := Lib.hid (take_step' hk9 hbk (by omega) Hu.out)
        have Hn := Lib.hid (take_next (b := at_ l k) Hu.out)
        clear ht
        have Hs2 := Hs
        by_cases hs : at_ l k < 128
        · have Hr := Lib.hid (hr.trans (by rw [if_pos hs])); clear hr
          have q5 : ((at_ l k : Nat) : Int) < 128 := by omega
          by_cases h9 : k = 9
          · have f1 : ((k : Int) == 9) = true := by rw [beq_iff_eq]; omega
            have f2 : ((at_ l k : Nat) : Int) ≤ 1 := by omega
            have f3 : (0 : Int) < (k : Int) := by omega
            have f4 : (((at_ l k : Nat) : Int) == 0) = false := by rw [beq_eq_false_iff_ne]; omega
            clear h9
            clear hf
            go_wp2
            go_ret3
            exact R1.mk (R3.of (by rw [Hr.out]; exact Hs2.out) (by rw [Hr.out]; go_num) (by rw [Hr.out]; rfl)) ⟨_, rfl⟩
          · have f1 : ((k : Int) == 9) = false := by rw [beq_eq_false_iff_ne]; omega
            by_cases h0 : 0 < k
            · have f3 : (0 : Int) < (k : Int) := by omega
              have f4 : (((at_ l k : Nat) : Int) == 0) = false := by rw [beq_eq_false_iff_ne]; omega
              clear h0 h9
              clear hf
              go_wp2
              go_ret3
              exact R1.mk (R3.of (by rw [Hr.out]; exact Hs2.out) (by rw [Hr.out]; go_num) (by rw [Hr.out]; rfl)) ⟨_, rfl⟩
            · have f3 : (k : Int) ≤ 0 := by omega
              clear h0 h9
              clear hf
              go_wp2
              go_ret3
              exact R1.mk (R3.of (by rw [Hr.out]; exact Hs2.out) (by rw [Hr.out]; go_num) (by rw [Hr.out]; rfl)) ⟨_, rfl⟩
        · have Hr := Lib.hid (hr.trans (by rw [if_neg hs])); clear hr
          have q5 : (128 : Int) ≤ ((at_ l k : Nat) : Int) := by omega
          have f1 : ((k : Int) == 9) = false := by rw [beq_eq_false_iff_ne]; omega
          have k9 : k + 1 ≤ 9 := by omega
          by_cases h0 : 0 < k
          · have f3 : (0 : Int) < (k : Int) := by omega
            have f4 : (((at_ l k : Nat) : Int) == 0) = false := by rw [beq_eq_false_iff_ne]; omega
            clear h0
            clear hf
            go_wp2
            go_roundw
            case rel => exact ⟨k + 1, _, by omega, by omega, by go_num, int_eq Hs2.out, Hn.out, Hr.out, ⟨_, rfl⟩⟩
            case measure => simp [intOf]; omega
          · have f3 : (k : Int) ≤ 0 := by omega
            clear h0
            clear hf
            go_wp2
            go_roundw
            case rel => exact ⟨k + 1, _, by omega, by omega, by go_num, int_eq Hs2.out, Hn.out, Hr.out, ⟨_, rfl⟩⟩
            case measure => simp [intOf]; omega
    · have Ht := Lib.hid (ht.trans (by rw [List.drop_eq_nil_of_le (by omega), takeGo])); clear ht
      go_wp2
      go_ret3
      exact R1.mk (by rw [Ht.out]; rfl) ⟨_, rfl⟩

theorem take_any' (A : Option Addr) (n c : Nat) (l : List Nat) (hn : l.length = n) (hl : l.length ≤ maxLen) (hb : Bytes l) (w : World) (h : Has w w.heap.size A (u8s l)) :
    Calls Tryd.prog 28 #[.slice A n c] w (R1 (R3 (takeN l)) (Drawn w)) := by
  subst hn
  exact take_any A c l hl hb w h
end Go.Proofs.YtmbpgenjjgepiaaDoor
