/- The walk of the law BitsNear: it returns true. Conditions: the arguments fit their kinds. -/
import Derived.Test.YtdoinkflhjnflaaBits
namespace Go.Proofs.Ytdoinkflhjnflaa
open Go.RowKit

set_option maxRecDepth 1000000 in
set_option maxHeartbeats 400000 in
theorem bitses_true (w : World) : Calls Try.prog 13 #[] w (R1 (.bool true) (Below w.heap.size w)) := by
  have e5 : Hid ((putL 5).length = 1) := Lib.hid (by rw [putL_small (by decide)]; rfl)
  go_enter Try.func13, Try.ntmps13
  go_wp2_with fail
  refine (put_any 5 (by omega) _).mono ?_
  rintro e w1 ⟨v, rfl, A, c, rfl, hown, hbel⟩
  rw [e5.out]
  go_wp2_with fail
  refine (zig_any (-1) (by omega) _).mono ?_
  rintro e w2 ⟨rfl, n1, rfl⟩
  rw [show zigN (-1) = 1 from by decide]
  go_wp2_with fail
  go_ret
  exact R1.mk rfl (below_drewN hbel _)

theorem zig_nat (N : Nat) : zigN (N : Int) = 2 * N := by unfold zigN; split <;> omega
theorem zig_neg (N : Nat) : zigN (-(N : Int) - 1) = 2 * N + 1 := by unfold zigN; split <;> omega

set_option maxRecDepth 1000000 in
set_option maxHeartbeats 2000000 in
theorem bitsNear_lt (w : World) (N M a b la lb : Nat) (hN : N ≤ 9223372036854775807) (hM : M ≤ 9223372036854775807) (ha : Hid (2 * N = a)) (hb : Hid (2 * M = b)) (hla : Hid ((putL a).length = la)) (hlb : Hid ((putL b).length = lb))
    (c1 : (N : Int) < (M : Int)) (c2 : (a : Int) < (b : Int)) (c3 : (la : Int) ≤ (lb : Int))
    (n' m' : Int) (hn' : (N : Int) = n' ∨ (N : Int) = -(n' + 1) ∧ n' < 0 ∧ -9223372036854775808 ≤ n') (hm' : (M : Int) = m' ∨ (M : Int) = -(m' + 1) ∧ m' < 0 ∧ -9223372036854775808 ≤ m') :
    Calls Try.prog 3 #[.int .i64 n', .int .i64 m'] w (R1 (.bool true) (Below w.heap.size w)) := by
  have ba : a ≤ 18446744073709551614 := by have := ha.out; omega
  have bb : b ≤ 18446744073709551614 := by have := hb.out; omega
  rcases hn' with rfl | ⟨en, hn1, hn2⟩
  all_goals rcases hm' with rfl | ⟨em, hm1, hm2⟩
  all_goals try have En := Lib.hid en.symm
  all_goals try have Em := Lib.hid em.symm
  all_goals try clear en
  all_goals try clear em
  all_goals
    go_enter Try.func3, Try.ntmps3
    go_wp2_with fail
    refine (bitses_true _).mono ?_
    rintro e w1 ⟨rfl, hb1⟩
    go_wp2_with fail
    try rw [En.out]
    try rw [Em.out]
    refine (zig_any (N : Int) (by omega) _).mono ?_
    rintro e w2 ⟨rfl, n1, rfl⟩
    rw [zig_nat, ha.out]
    go_wp2_with fail
    refine (zig_any (M : Int) (by omega) _).mono ?_
    rintro e w2 ⟨rfl, n2, rfl⟩
    rw [zig_nat, hb.out]
    go_wp2_with fail
    refine (put_any a (by omega) _).mono ?_
    rintro e w3 ⟨v, rfl, A, c, rfl, hown, hb3⟩
    rw [hla.out]
    go_wp2_with fail
    refine (put_any b (by omega) _).mono ?_
    rintro e w4 ⟨v, rfl, A', c', rfl, hown', hb4⟩
    rw [hlb.out]
    go_wp2_with fail
    refine (zig_any (-(N : Int) - 1) (by omega) _).mono ?_
    rintro e w5 ⟨rfl, n5, rfl⟩
    rw [zig_neg, ha.out]
    go_wp2_with fail
    go_ret
    exact R1.mk rfl (below_drewN (bnext (bnext (below_drewN hb1 _) hb3) hb4) _)

set_option maxRecDepth 1000000 in
set_option maxHeartbeats 2000000 in
theorem bitsNear_gt (w : World) (N M a b la lb : Nat) (hN : N ≤ 9223372036854775807) (hM : M ≤ 9223372036854775807) (ha : Hid (2 * N = a)) (hb : Hid (2 * M = b)) (_ : Hid ((putL a).length = la)) (_ : Hid ((putL b).length = lb))
    (c1 : (M : Int) < (N : Int)) (c2 : (b : Int) < (a : Int))
    (n' m' : Int) (hn' : (N : Int) = n' ∨ (N : Int) = -(n' + 1) ∧ n' < 0 ∧ -9223372036854775808 ≤ n') (hm' : (M : Int) = m' ∨ (M : Int) = -(m' + 1) ∧ m' < 0 ∧ -9223372036854775808 ≤ m') :
    Calls Try.prog 3 #[.int .i64 n', .int .i64 m'] w (R1 (.bool true) (Below w.heap.size w)) := by
  have ba : a ≤ 18446744073709551614 := by have := ha.out; omega
  have bb : b ≤ 18446744073709551614 := by have := hb.out; omega
  rcases hn' with rfl | ⟨en, hn1, hn2⟩
  all_goals rcases hm' with rfl | ⟨em, hm1, hm2⟩
  all_goals try have En := Lib.hid en.symm
  all_goals try have Em := Lib.hid em.symm
  all_goals try clear en
  all_goals try clear em
  all_goals
    go_enter Try.func3, Try.ntmps3
    go_wp2_with fail
    refine (bitses_true _).mono ?_
    rintro e w1 ⟨rfl, hb1⟩
    go_wp2_with fail
    try rw [En.out]
    try rw [Em.out]
    refine (zig_any (N : Int) (by omega) _).mono ?_
    rintro e w2 ⟨rfl, n1, rfl⟩
    rw [zig_nat, ha.out]
    go_wp2_with fail
    refine (zig_any (M : Int) (by omega) _).mono ?_
    rintro e w2 ⟨rfl, n2, rfl⟩
    rw [zig_nat, hb.out]
    go_wp2_with fail
    refine (zig_any (-(N : Int) - 1) (by omega) _).mono ?_
    rintro e w5 ⟨rfl, n5, rfl⟩
    rw [zig_neg, ha.out]
    go_wp2_with fail
    go_ret
    exact R1.mk rfl (below_drewN hb1 _)

set_option maxRecDepth 1000000 in
set_option maxHeartbeats 2000000 in
theorem bitsNear_eq (w : World) (N a la : Nat) (hN : N ≤ 9223372036854775807) (ha : Hid (2 * N = a)) (hla : Hid ((putL a).length = la))
    (n' m' : Int) (hn' : (N : Int) = n' ∨ (N : Int) = -(n' + 1) ∧ n' < 0 ∧ -9223372036854775808 ≤ n') (hm' : (N : Int) = m' ∨ (N : Int) = -(m' + 1) ∧ m' < 0 ∧ -9223372036854775808 ≤ m') :
    Calls Try.prog 3 #[.int .i64 n', .int .i64 m'] w (R1 (.bool true) (Below w.heap.size w)) := by
  have ba : a ≤ 18446744073709551614 := by have := ha.out; omega
  rcases hn' with rfl | ⟨en, hn1, hn2⟩
  all_goals rcases hm' with rfl | ⟨em, hm1, hm2⟩
  all_goals try have En := Lib.hid en.symm
  all_goals try have Em := Lib.hid em.symm
  all_goals try clear en
  all_goals try clear em
  all_goals
    go_enter Try.func3, Try.ntmps3
    go_wp2_with fail
    refine (bitses_true _).mono ?_
    rintro e w1 ⟨rfl, hb1⟩
    go_wp2_with fail
    try rw [En.out]
    try rw [Em.out]
    refine (zig_any (N : Int) (by omega) _).mono ?_
    rintro e w2 ⟨rfl, n1, rfl⟩
    rw [zig_nat, ha.out]
    go_wp2_with fail
    refine (zig_any (N : Int) (by omega) _).mono ?_
    rintro e w2 ⟨rfl, n2, rfl⟩
    rw [zig_nat, ha.out]
    go_wp2_with fail
    refine (put_any a (by omega) _).mono ?_
    rintro e w3 ⟨v, rfl, A, c, rfl, hown, hb3⟩
    rw [hla.out]
    go_wp2_with fail
    refine (put_any a (by omega) _).mono ?_
    rintro e w4 ⟨v, rfl, A', c', rfl, hown', hb4⟩
    rw [hla.out]
    go_wp2_with fail
    refine (zig_any (-(N : Int) - 1) (by omega) _).mono ?_
    rintro e w5 ⟨rfl, n5, rfl⟩
    rw [zig_neg, ha.out]
    go_wp2_with fail
    go_ret
    exact R1.mk rfl (below_drewN (bnext (bnext (below_drewN hb1 _) hb3) hb4) _)

theorem bitsNear_true (w : World) (n : Int) (hn : -9223372036854775808 ≤ n ∧ n ≤ 9223372036854775807) (m : Int) (hm : -9223372036854775808 ≤ m ∧ m ≤ 9223372036854775807) :
    Calls Try.prog 3 #[.int .i64 n, .int .i64 m] w (R1 (.bool true) (Below w.heap.size w)) := by
  obtain ⟨N, hN⟩ : ∃ N : Nat, (N : Int) = n ∨ (N : Int) = -(n + 1) ∧ n < 0 ∧ -9223372036854775808 ≤ n := by
    rcases Int.lt_or_le n 0 with h | h
    · exact ⟨(-(n + 1)).toNat, .inr ⟨by omega, h, hn.1⟩⟩
    · exact ⟨n.toNat, .inl (by omega)⟩
  obtain ⟨M, hM⟩ : ∃ M : Nat, (M : Int) = m ∨ (M : Int) = -(m + 1) ∧ m < 0 ∧ -9223372036854775808 ≤ m := by
    rcases Int.lt_or_le m 0 with h | h
    · exact ⟨(-(m + 1)).toNat, .inr ⟨by omega, h, hm.1⟩⟩
    · exact ⟨m.toNat, .inl (by omega)⟩
  rcases Nat.lt_trichotomy N M with h | h | h
  · have := putL_len_mono (show 2 * N ≤ 2 * M by omega)
    exact bitsNear_lt w N M _ _ _ _ (by omega) (by omega) (Lib.hid rfl) (Lib.hid rfl) (Lib.hid rfl) (Lib.hid rfl) (by omega) (by omega) (by omega) n m hN hM
  · subst h
    exact bitsNear_eq w N _ _ (by omega) (Lib.hid rfl) (Lib.hid rfl) n m hN hM
  · exact bitsNear_gt w N M _ _ _ _ (by omega) (by omega) (Lib.hid rfl) (Lib.hid rfl) (Lib.hid rfl) (Lib.hid rfl) (by omega) (by omega) n m hN hM
end Go.Proofs.Ytdoinkflhjnflaa
