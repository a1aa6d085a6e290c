/- The walk of the law BitsJoin: it returns true. Conditions: the arguments fit their kinds. -/
import Derived.Test.YtdoinkflhjnflaaLawBits
import Derived.Test.YtdoinkflhjnflaaPull
import Derived.Test.YtdoinkflhjnflaaGood
namespace Go.Proofs.Ytdoinkflhjnflaa
open Go.RowKit

theorem pullUp_join (l : List Nat) (p n m : Nat) : pullUp l p (n + m) = pullUp l p n * 2 ^ m + pullUp l (p + n) m := by
  induction m with
  | zero => simp [pullUp]
  | succ m ih => rw [← Nat.add_assoc, pullUp, ih, pullUp, Nat.pow_succ, Nat.mul_add, Nat.add_assoc p n m, ← Nat.mul_assoc, Nat.mul_comm 2, Nat.mul_assoc, Nat.mul_comm 2 (2 ^ m)]; omega
theorem join_eq {l : List Nat} {p n m : Nat} (h : n + m ≤ 64) :
    bits .or .u64 (IntKind.u64.wrap ((pullUp l p n : Int) * 2 ^ m)) (pullUp l (p + n) m : Int) = ((pullUp l p (n + m) : Nat) : Int) := by
  have h1 := pullUp_lt l p (n + m)
  have h2 := pullUp_lt l (p + n) m
  have h3 : (2 : Nat) ^ (n + m) ≤ 2 ^ 64 := Nat.pow_le_pow_right (by decide) h
  have e := pullUp_join l p n m
  have e1 : (pullUp l p n : Int) * 2 ^ m = ((pullUp l p n * 2 ^ m : Nat) : Int) := by rw [Int.natCast_mul, Int.natCast_pow]; rfl
  have h4 : (2 : Nat) ^ 64 = 18446744073709551616 := by decide +kernel
  rw [e1, show IntKind.u64.wrap ((pullUp l p n * 2 ^ m : Nat) : Int) = ((pullUp l p n * 2 ^ m : Nat) : Int) from IntWalk.u64_in _ (by omega), bits_or_u64_nat _ _ (by omega) (by omega), e]
  have := Nat.two_pow_add_eq_or_of_lt h2 (pullUp l p n)
  rw [Nat.mul_comm, ← this]

set_option maxRecDepth 1000000 in
set_option maxHeartbeats 2000000 in
theorem bitsJoin_true (w : World) (A : Option Addr) (c : Nat) (l : List Nat) (N : Int) (hb : Bytes l) (_ : l.length ≤ c) (_ : c ≤ maxLen) (_ : A = none → c = 0) (h : Has w w.heap.size A (u8s l)) (hr : l.length ≤ 140737488351232) (hN : -9223372036854775808 ≤ N ∧ N ≤ 9223372036854775807)
    (p : Int) (hp : -9223372036854775808 ≤ p ∧ p ≤ 9223372036854775807) (n : Int) (hn : -9223372036854775808 ≤ n ∧ n ≤ 9223372036854775807) (m : Int) (hm : -9223372036854775808 ≤ m ∧ m ≤ 9223372036854775807) :
    Calls Try.prog 11 #[.agg #[.slice A l.length c, .int .i64 N], .int .i64 p, .int .i64 n, .int .i64 m] w (R1 (.bool true) (Below w.heap.size w)) := by
  have hbx : Below w.heap.size w (w.alloc (.cells #[.slice A l.length c, .int .i64 N] 49)) := (Below.refl _ _).alloc (Nat.le_refl _) _
  have hbk : Blk (w.alloc (.cells #[.slice A l.length c, .int .i64 N] 49)) w.heap.size 49 #[.slice A l.length c, .int .i64 N] := Blk.new w _ _
  rcases (show n < 0 ∨ (0 ≤ n ∧ m < 0) ∨ (0 ≤ n ∧ 0 ≤ m ∧ 64 < n) ∨ (0 ≤ n ∧ 0 ≤ m ∧ n ≤ 64 ∧ 64 - n < m) ∨ (0 ≤ n ∧ 0 ≤ m ∧ n ≤ 64 ∧ m ≤ 64 - n) by omega) with h1 | ⟨h1, h2⟩ | ⟨h1, h2, h3⟩ | ⟨h1, h2, h3, h4⟩ | ⟨h1, h2, h3, h4⟩
  all_goals try (
    go_enter Try.func11, Try.ntmps11
    go_wp2_with fail
    refine (bitses_true _).mono ?_
    rintro e w1 ⟨rfl, hb1⟩
    go_wp2_with fail
    go_ret
    exact R1.mk rfl (bnext hbx hb1))
  obtain ⟨n, rfl⟩ := Int.eq_ofNat_of_zero_le h1
  obtain ⟨m, rfl⟩ := Int.eq_ofNat_of_zero_le h2
  have hsum : (n : Int) + (m : Int) ≤ 64 := by omega
  have herr : (∃ ea : Int, pullN l N p ((n : Int) + (m : Int)) = (0, ea) ∧ (ea != 0) = true) ∨ (chkB l N = 0 ∧ 0 ≤ p ∧ p ≤ N - ((n : Int) + (m : Int))) := by
    unfold pullN
    rcases chkB_or l N with hk | hk
    · rw [if_neg (by rw [hk]; simp)]
      by_cases hp0 : p < 0
      · exact .inl ⟨1, by rw [if_pos (.inr (.inr hp0))], rfl⟩
      · rw [if_neg (by omega)]
        by_cases hs : N - ((n : Int) + (m : Int)) < p
        · exact .inl ⟨3, by rw [if_pos hs], rfl⟩
        · exact .inr ⟨hk, by omega, by omega⟩
    · exact .inl ⟨4, by rw [if_pos (by rw [hk]; simp)], rfl⟩
  rcases herr with ⟨ea, hP, hea⟩ | ⟨hk, hp0, hpN⟩
  · have HP := Lib.hid hP; clear hP
    go_enter Try.func11, Try.ntmps11
    go_wp2_with fail
    refine (bitses_true _).mono ?_
    rintro e w1 ⟨rfl, hb1⟩
    have hb1' := bnext hbx hb1
    have hbk1 := hbk.next hb1
    have c0 : w1.cell? ⟨w.heap.size, 0, none⟩ = some (.slice A l.length c) := hbk1.cell 0
    have c1 : w1.cell? ⟨w.heap.size, 1, none⟩ = some (.int .i64 N) := hbk1.cell 1
    go_wp2_with fail
    refine (pull_any A c l N p _ hN.2 hp (by omega) (by omega) hb _ (h.next hb1')).mono ?_
    rintro e w2 ⟨rfl, hb2⟩
    rw [HP.out, R2e]
    go_wp2_with fail
    go_ret
    exact R1.mk rfl (bnext hb1' hb2)
  · obtain ⟨q, rfl⟩ := Int.eq_ofNat_of_zero_le hp0
    have HP : Hid (pullN l N q ((n : Int) + (m : Int)) = (pullUp l q (n + m), 0)) := Lib.hid (by unfold pullN; rw [if_neg (by rw [hk]; simp), if_neg (by omega), if_neg (by omega)]; rfl)
    have HQ : Hid (pullN l N q (n : Int) = (pullUp l q n, 0)) := Lib.hid (by unfold pullN; rw [if_neg (by rw [hk]; simp), if_neg (by omega), if_neg (by omega)]; rfl)
    have HR : Hid (pullN l N ((q : Int) + (n : Int)) (m : Int) = (pullUp l (q + n) m, 0)) := Lib.hid (by unfold pullN; rw [if_neg (by rw [hk]; simp), if_neg (by omega), if_neg (by omega)]; rfl)
    clear hk
    go_enter Try.func11, Try.ntmps11
    go_wp2_with fail
    refine (bitses_true _).mono ?_
    rintro e w1 ⟨rfl, hb1⟩
    have hb1' := bnext hbx hb1
    have hbk1 := hbk.next hb1
    have c0 : w1.cell? ⟨w.heap.size, 0, none⟩ = some (.slice A l.length c) := hbk1.cell 0
    have c1 : w1.cell? ⟨w.heap.size, 1, none⟩ = some (.int .i64 N) := hbk1.cell 1
    go_wp2_with fail
    refine (pull_any A c l N q _ hN.2 hp (by omega) (by omega) hb _ (h.next hb1')).mono ?_
    rintro e w2 ⟨rfl, hb2⟩
    have hb2' := bnext hb1' hb2
    have hbk2 := hbk1.next hb2
    have d0 : w2.cell? ⟨w.heap.size, 0, none⟩ = some (.slice A l.length c) := hbk2.cell 0
    have d1 : w2.cell? ⟨w.heap.size, 1, none⟩ = some (.int .i64 N) := hbk2.cell 1
    rw [HP.out, R2e]
    go_wp2_with fail
    refine (pull_any A c l N q _ hN.2 hp hn (by omega) hb _ (h.next hb2')).mono ?_
    rintro e w3 ⟨rfl, hb3⟩
    have hb3' := bnext hb2' hb3
    have hbk3 := hbk2.next hb3
    have g0 : w3.cell? ⟨w.heap.size, 0, none⟩ = some (.slice A l.length c) := hbk3.cell 0
    have g1 : w3.cell? ⟨w.heap.size, 1, none⟩ = some (.int .i64 N) := hbk3.cell 1
    rw [HQ.out, R2e]
    go_wp2_with fail
    refine (pull_any A c l N _ _ hN.2 (by omega) hm (by omega) hb _ (h.next hb3')).mono ?_
    rintro e w4 ⟨rfl, hb4⟩
    have hb4' := bnext hb3' hb4
    rw [HR.out, R2e]
    go_wp2_with fail
    refine (good_any _ 2 _ [0, 0] rfl (by decide) _ (Has.fresh w4 #[.int .i64 0, .int .i64 0] _)).mono ?_
    rintro e w5 ⟨rfl, n5, rfl⟩
    go_wp2_with fail
    go_ret
    exact R1.mk (bool_eq (by rw [join_eq (by omega)]; simp)) (below_drewN (bnext hb4' ((Below.refl _ _).alloc (Nat.le_refl _) _)) _)
end Go.Proofs.Ytdoinkflhjnflaa
