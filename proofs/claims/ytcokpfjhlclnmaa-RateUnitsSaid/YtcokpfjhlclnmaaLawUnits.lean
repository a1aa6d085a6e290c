/- The walk of the law RateUnits: it returns true. Conditions: the arguments fit their kinds. -/
import Derived.Test.YtcokpfjhlclnmaaRates
import Derived.Test.YtcokpfjhlclnmaaPer
namespace Go.Proofs.Ytcokpfjhlclnmaa
open Go.RowKit

def UnitsP (x y : Int × Int) (k : Int) : Prop :=
  (x.2 ≠ 0 ∧ y.2 = x.2 ∧ x.1 = 0 ∧ y.1 = 0) ∨ (x.2 = 0 ∧ y.2 = 2 ∧ y.1 = 0) ∨ (x.2 = 0 ∧ y.2 = 0 ∧ 0 ≤ y.1 ∧ y.1 ≤ 9223372036854775807 ∧ y.1 / k = x.1)

theorem perIn_units (r : List Smp) (hr : 2 ≤ r.length → (at_ r 0).t < (at_ r (r.length - 1)).t) (u k : Nat) (hk : 1 ≤ k) : UnitsP (perIn r u) (perIn r (u * k : Nat)) k := by
  unfold perIn
  by_cases h2 : r.length < 2
  · rw [if_pos h2, if_pos h2]
    exact .inl ⟨by decide, rfl, rfl, rfl⟩
  · rw [if_neg h2, if_neg h2]
    have hd := hr (by omega)
    simp only [Int.toNat_natCast]
    generalize hX : (grUp r (r.length - 1)).1 = X
    generalize hD : (at_ r (r.length - 1)).t - (at_ r 0).t = d
    have hd1 : 1 ≤ d := by omega
    rw [← Nat.mul_assoc]
    generalize X * u = p
    have hpk : p ≤ p * k := Nat.le_mul_of_pos_right p (by omega)
    by_cases h3 : 9223372036854775808 ≤ p
    · rw [if_pos h3, if_pos (by omega)]
      exact .inl ⟨by decide, rfl, rfl, rfl⟩
    · rw [if_neg h3]
      by_cases h4 : 9223372036854775808 ≤ p * k
      · rw [if_pos h4]
        exact .inr (.inl ⟨rfl, rfl, rfl⟩)
      · rw [if_neg h4]
        refine .inr (.inr ⟨rfl, rfl, ?_, ?_, ?_⟩)
        · exact Int.ediv_nonneg (by omega) (by omega)
        · have := Int.ediv_le_self d (show (0 : Int) ≤ ((p * k : Nat) : Int) by omega)
          simp only []
          omega
        · show ((p * k : Nat) : Int) / d / (k : Int) = (p : Int) / d
          rw [Int.ediv_ediv_of_nonneg (by omega), Int.mul_comm d, ← Int.ediv_ediv_of_nonneg (by omega), Int.natCast_mul, Int.mul_ediv_cancel _ (by omega)]

theorem perN_units (l : List Smp) (a b : Int) (u k : Nat) (hu : 1 ≤ u) (hk : 1 ≤ k) (huk : u * k ≤ 1099511627776) : UnitsP (perN l a b u) (perN l a b (u * k : Nat)) k := by
  have h1 : u ≤ u * k := Nat.le_mul_of_pos_right u (by omega)
  unfold perN
  by_cases hg : (grN l).2.2 = 0
  · simp only [hg, ne_eq, not_true_eq_false, if_false]
    have hb : perBad a b (u * k : Nat) = perBad a b u := by
      unfold perBad
      rw [show decide (((u * k : Nat) : Int) < 1) = decide ((u : Int) < 1) by rw [decide_eq_false (by omega), decide_eq_false (by omega)],
        show decide ((1099511627776 : Int) < ((u * k : Nat) : Int)) = decide ((1099511627776 : Int) < (u : Int)) by rw [decide_eq_false (by omega), decide_eq_false (by omega)]]
    rw [hb]
    cases perBad a b u
    · simp only [Bool.false_eq_true, if_false]
      refine perIn_units _ ?_ u k hk
      intro h2
      have := rangeN_pair (grN_fine hg).1 a b
      rw [List.pairwise_iff_getElem] at this
      have := this 0 ((rangeN l a b).length - 1) (by omega) (by omega) (by omega)
      rwa [at_eq (show 0 < (rangeN l a b).length by omega), at_eq (show (rangeN l a b).length - 1 < (rangeN l a b).length by omega)]
    · exact .inl ⟨by simp, rfl, rfl, rfl⟩
  · rw [if_pos hg, if_pos hg]
    exact .inl ⟨hg, rfl, rfl, rfl⟩

set_option maxRecDepth 1000000 in
set_option maxHeartbeats 4000000 in
theorem rateUnits_true (w : World) (A : Option Addr) (c : Nat) (l : List Smp) (hs : Smps l) (hlc : l.length ≤ c) (hc : c ≤ maxLen) (_ : A = none → c = 0) (h : Has w w.heap.size A (smpCs l)) (_ : l.length ≤ 8796093022207)
    (a : Int) (_ : -9223372036854775808 ≤ a ∧ a ≤ 9223372036854775807) (b : Int) (_ : -9223372036854775808 ≤ b ∧ b ≤ 9223372036854775807) (u : Int) (_ : -9223372036854775808 ≤ u ∧ u ≤ 9223372036854775807) (k : Int) (_ : -9223372036854775808 ≤ k ∧ k ≤ 9223372036854775807) :
    Calls Try.prog 9 #[.slice A l.length c, .int .i64 a, .int .i64 b, .int .i64 u, .int .i64 k] w (R1 (.bool true) (Below w.heap.size w)) := by
  rcases (show k < 1 ∨ (1 ≤ k ∧ 1000 < k) ∨ (1 ≤ k ∧ k ≤ 1000 ∧ u < 1) ∨ (1 ≤ k ∧ k ≤ 1000 ∧ 1 ≤ u) by omega) with h1 | ⟨h1, h2⟩ | ⟨h1, h2, h3⟩ | ⟨h1, h2, h3⟩
  · skip
    go_enter Try.func9, Try.ntmps9
    go_wp2_with fail
    refine (rates_true _).mono ?_
    rintro x w1 ⟨rfl, hb1⟩
    go_wp2_with fail
    go_ret
    first | exact R1.mk rfl hb1 | exact R1.mk rfl (below_drewN hb1 _)
  · skip
    go_enter Try.func9, Try.ntmps9
    go_wp2_with fail
    refine (rates_true _).mono ?_
    rintro x w1 ⟨rfl, hb1⟩
    go_wp2_with fail
    go_ret
    first | exact R1.mk rfl hb1 | exact R1.mk rfl (below_drewN hb1 _)
  · skip
    go_enter Try.func9, Try.ntmps9
    go_wp2_with fail
    refine (rates_true _).mono ?_
    rintro x w1 ⟨rfl, hb1⟩
    go_wp2_with fail
    go_ret
    first | exact R1.mk rfl hb1 | exact R1.mk rfl (below_drewN hb1 _)
  obtain ⟨K, rfl⟩ := Int.eq_ofNat_of_zero_le (show 0 ≤ k by omega)
  obtain ⟨U, rfl⟩ := Int.eq_ofNat_of_zero_le (show 0 ≤ u by omega)
  have e1 : IntKind.i64.wrap ((1099511627776 : Int).tdiv (K : Int)) = 1099511627776 / (K : Int) := IntWalk.i64_quo _ _ (by omega)
  by_cases h4 : (1099511627776 : Int) / (K : Int) < (U : Int)
  · have g4 : decide ((1099511627776 : Int) / (K : Int) < (U : Int)) = true := decide_eq_true h4
    have g1 : decide ((K : Int) < 1) = false := decide_eq_false (by omega)
    have g2 : decide ((1000 : Int) < (K : Int)) = false := decide_eq_false (by omega)
    have g3 : decide ((U : Int) < 1) = false := decide_eq_false (by omega)
    have g5 : ¬ ((K : Int) = 0) := by omega
    go_enter Try.func9, Try.ntmps9
    go_wp2_with fail
    refine (rates_true _).mono ?_
    rintro x w1 ⟨rfl, hb1⟩
    go_wp2_with fail
    go_ret
    first | exact R1.mk rfl hb1 | exact R1.mk rfl (below_drewN hb1 _)
  · have g4 : decide ((1099511627776 : Int) / (K : Int) < (U : Int)) = false := decide_eq_false h4
    have g1 : decide ((K : Int) < 1) = false := decide_eq_false (by omega)
    have g2 : decide ((1000 : Int) < (K : Int)) = false := decide_eq_false (by omega)
    have g3 : decide ((U : Int) < 1) = false := decide_eq_false (by omega)
    have g5 : ¬ ((K : Int) = 0) := by omega
    have huk : U * K ≤ 1099511627776 := by
      have h5 : (U : Int) ≤ (1099511627776 : Int) / (K : Int) := by omega
      have h6 := (Int.le_ediv_iff_mul_le (show (0 : Int) < (K : Int) by omega)).1 h5
      rw [← Int.natCast_mul] at h6
      omega
    have em : IntKind.i64.wrap ((U : Int) * (K : Int)) = (U : Int) * (K : Int) := IntWalk.i64_in _ (by rw [← Int.natCast_mul]; omega)
    have HL := perN_units l a b U K (by omega) (by omega) huk
    rcases hP : perN l a b U with ⟨n, e⟩
    rw [Int.natCast_mul] at HL
    rcases hQ : perN l a b ((U : Int) * (K : Int)) with ⟨m, f⟩
    rw [hP, hQ] at HL
    have HP := Lib.hid hP
    have HQ := Lib.hid hQ
    clear hP hQ huk h4
    rcases HL with ⟨l1, l2, l3, l4⟩ | ⟨l1, l2, l3⟩ | ⟨l1, l2, l3, l4, l5⟩
    · simp only at l1 l2 l3 l4
      subst l2 l3 l4
      have f1 : (f != 0) = true := by rw [bne_iff_ne]; exact l1
      have f2 : (f == 0) = false := by rw [beq_eq_false_iff_ne]; exact l1
      clear l1
      go_enter Try.func9, Try.ntmps9
      go_wp2_with fail
      refine (rates_true _).mono ?_
      rintro x w1 ⟨rfl, hb1⟩
      go_wp2_with fail
      refine (per_any A c l hs hlc hc a b U _ (by exact h.next hb1)).mono ?_
      rintro x w2 ⟨rfl, hb2⟩
      have hb2 := bnext hb1 hb2
      rw [HP.out, R2i]
      go_wp2_with fail
      refine (per_any A c l hs hlc hc a b ((U : Int) * (K : Int)) _ (by exact h.next hb2)).mono ?_
      rintro x w3 ⟨rfl, hb3⟩
      have hb3 := bnext hb2 hb3
      rw [HQ.out, R2i]
      go_wp2_with fail
      go_ret
      exact R1.mk (bool_eq (by simp)) hb3
    · simp only at l1 l2 l3
      subst l1 l2 l3
      go_enter Try.func9, Try.ntmps9
      go_wp2_with fail
      refine (rates_true _).mono ?_
      rintro x w1 ⟨rfl, hb1⟩
      go_wp2_with fail
      refine (per_any A c l hs hlc hc a b U _ (by exact h.next hb1)).mono ?_
      rintro x w2 ⟨rfl, hb2⟩
      have hb2 := bnext hb1 hb2
      rw [HP.out, R2i]
      go_wp2_with fail
      refine (per_any A c l hs hlc hc a b ((U : Int) * (K : Int)) _ (by exact h.next hb2)).mono ?_
      rintro x w3 ⟨rfl, hb3⟩
      have hb3 := bnext hb2 hb3
      rw [HQ.out, R2i]
      go_wp2_with fail
      go_ret
      exact R1.mk (bool_eq (by simp)) hb3
    · simp only at l1 l2 l3 l4 l5
      subst l1 l2
      have em2 : IntKind.i64.wrap (m.tdiv (K : Int)) = m / (K : Int) := IntWalk.i64_quo _ _ (by omega)
      have L5 := Lib.hid l5; clear l5
      go_enter Try.func9, Try.ntmps9
      go_wp2_with fail
      refine (rates_true _).mono ?_
      rintro x w1 ⟨rfl, hb1⟩
      go_wp2_with fail
      refine (per_any A c l hs hlc hc a b U _ (by exact h.next hb1)).mono ?_
      rintro x w2 ⟨rfl, hb2⟩
      have hb2 := bnext hb1 hb2
      rw [HP.out, R2i]
      go_wp2_with fail
      refine (per_any A c l hs hlc hc a b ((U : Int) * (K : Int)) _ (by exact h.next hb2)).mono ?_
      rintro x w3 ⟨rfl, hb3⟩
      have hb3 := bnext hb2 hb3
      rw [HQ.out, R2i]
      go_wp2_with fail
      go_ret
      exact R1.mk (bool_eq (by rw [beq_iff_eq]; exact L5.out)) hb3
end Go.Proofs.Ytcokpfjhlclnmaa
