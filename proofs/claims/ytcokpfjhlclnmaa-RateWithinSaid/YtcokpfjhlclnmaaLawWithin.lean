/- The walk of the law RateWithin: it returns true. Conditions: the arguments fit their kinds. -/
import Derived.Test.YtcokpfjhlclnmaaRates
import Derived.Test.YtcokpfjhlclnmaaPer
namespace Go.Proofs.Ytcokpfjhlclnmaa
open Go.RowKit

theorem own_caps {w : World} {base size n c : Nat} {e : TypeId} {A : Option Addr} {xs : List Value} (h : w.ownsRow base e size (.slice A n c) n xs) : n ≤ c ∧ c ≤ maxLen := by
  obtain ⟨A', c', e1, h2, h3, _⟩ := own_form h
  injection e1 with e1 e2 e3
  subst e1 e3
  exact ⟨h2, h3⟩

theorem rangeN_range {l : List Smp} (hk : chkS l = 0) (a b : Int) (hp : posS l = true) : rangeN (rangeN l a b) a b = rangeN l a b := by
  have h2 := (rangeN_fine hk hp a b).1
  rw [show rangeN (rangeN l a b) a b = (rangeN l a b).filter (inS a b) by unfold rangeN at *; rw [if_neg (by rw [h2]; simp)]]
  rw [List.filter_eq_self]
  intro s hs
  have := rangeN_mem hs
  simp [inS, this.2]
theorem perN_err (l : List Smp) (a b u : Int) (h : chkS l ≠ 0 ∨ (perN l a b u).2 = 6) : (perN l a b u).1 = 0 := by
  have fin : ∀ r, (perIn r u).2 ≠ 6 := by
    intro r
    unfold perIn
    split
    · simp
    · simp only []
      split <;> simp
  unfold perN at *
  split at h
  · rename_i h1
    rw [if_pos h1]
  · rename_i h1
    rw [if_neg h1]
    rw [Decidable.not_not] at h1
    have h0 := grN_fine h1
    rcases h with h | h
    · exact absurd h0.1 h
    · split at h
      · rw [if_pos (by assumption)]
      · exact absurd h (fin _)
theorem perN_within {l : List Smp} (hk : chkS l = 0) (a b u : Int) (h : (perN l a b u).2 ≠ 6) : perN (rangeN l a b) a b u = perN l a b u := by
  by_cases hp : posS l = true
  · have h2 := rangeN_fine hk hp a b
    unfold perN
    rw [grN_ok h2.1 h2.2, grN_ok hk hp, rangeN_range hk a b hp]
  · exfalso
    apply h
    unfold perN grN
    simp [hk, hp]
theorem rangeN_smps {l : List Smp} (hs : Smps l) (a b : Int) : Smps (rangeN l a b) := fun s h => hs s (rangeN_mem h).1

set_option maxRecDepth 1000000 in
set_option maxHeartbeats 4000000 in
theorem rateWithin_true (w : World) (A : Option Addr) (c : Nat) (l : List Smp) (hs : Smps l) (hlc : l.length ≤ c) (hc : c ≤ maxLen) (_ : A = none → c = 0) (h : Has w w.heap.size A (smpCs l)) (_ : l.length ≤ 8796093022207)
    (a : Int) (_ : -9223372036854775808 ≤ a ∧ a ≤ 9223372036854775807) (b : Int) (_ : -9223372036854775808 ≤ b ∧ b ≤ 9223372036854775807) (u : Int) (_ : -9223372036854775808 ≤ u ∧ u ≤ 9223372036854775807) :
    Calls Try.prog 10 #[.slice A l.length c, .int .i64 a, .int .i64 b, .int .i64 u] w (R1 (.bool true) (Below w.heap.size w)) := by
  rcases hP : perN l a b u with ⟨n, e⟩
  rcases hQ : perN (rangeN l a b) a b u with ⟨m, f⟩
  have h1 := perN_err l a b u
  have h2 := @perN_within l
  have h2 : chkS l = 0 → e ≠ 6 → m = n ∧ f = e := by
    intro hk he
    have := h2 hk a b u (by rw [hP]; exact he)
    rw [hP, hQ] at this
    injection this with x y
    exact ⟨x, y⟩
  rw [hP] at h1
  simp only at h1
  have hrs := rangeN_smps hs a b
  have HP := Lib.hid hP
  have HQ := Lib.hid hQ
  clear hP hQ
  obtain ⟨k, hk⟩ : ∃ k, chkS l = k := ⟨_, rfl⟩
  have HC := Lib.hid hk
  rw [hk] at h1 h2
  clear hk
  by_cases he : e = 6
  · have hn : n = 0 := h1 (.inr he)
    subst he hn
    clear h1 h2
    go_enter Try.func10, Try.ntmps10
    go_wp2_with fail
    refine (rates_true _).mono ?_
    rintro x w1 ⟨rfl, hb1⟩
    go_wp2_with fail
    refine (per_any A c l hs hlc hc a b u _ (by exact h.next hb1)).mono ?_
    rintro x w2 ⟨rfl, hb2⟩
    have hb2 := bnext hb1 hb2
    rw [HP.out, R2i]
    go_wp2_with fail
    refine (range_any A c l hlc hc a b _ (by exact h.next hb2)).mono ?_
    rintro x w3 ⟨v, rfl, A3, c3, rfl, hown3, hb3⟩
    have hb3 := bnext hb2 hb3
    rw [HC.out]
    have hcap := own_caps hown3
    go_wp2_with fail
    refine (per_any A3 c3 (rangeN l a b) hrs hcap.1 hcap.2 a b u _ (by exact Has.of_own hown3)).mono ?_
    rintro x w4 ⟨rfl, hb4⟩
    have hb4 := bnext hb3 hb4
    rw [HQ.out, R2i]
    go_wp2_with fail
    go_ret
    exact R1.mk (bool_eq (by simp)) hb4
  by_cases hk : k = 0
  · obtain ⟨rfl, rfl⟩ := h2 hk he
    subst hk
    clear h1 h2
    have f1 : (f == 6) = false := by rw [beq_eq_false_iff_ne]; exact he
    clear he
    go_enter Try.func10, Try.ntmps10
    go_wp2_with fail
    refine (rates_true _).mono ?_
    rintro x w1 ⟨rfl, hb1⟩
    go_wp2_with fail
    refine (per_any A c l hs hlc hc a b u _ (by exact h.next hb1)).mono ?_
    rintro x w2 ⟨rfl, hb2⟩
    have hb2 := bnext hb1 hb2
    rw [HP.out, R2i]
    go_wp2_with fail
    refine (range_any A c l hlc hc a b _ (by exact h.next hb2)).mono ?_
    rintro x w3 ⟨v, rfl, A3, c3, rfl, hown3, hb3⟩
    have hb3 := bnext hb2 hb3
    rw [HC.out]
    have hcap := own_caps hown3
    go_wp2_with fail
    refine (per_any A3 c3 (rangeN l a b) hrs hcap.1 hcap.2 a b u _ (by exact Has.of_own hown3)).mono ?_
    rintro x w4 ⟨rfl, hb4⟩
    have hb4 := bnext hb3 hb4
    rw [HQ.out, R2i]
    go_wp2_with fail
    go_ret
    exact R1.mk (bool_eq (by simp)) hb4
  · have hn : n = 0 := h1 (.inl hk)
    subst hn
    clear h1 h2
    have f1 : (e == 6) = false := by rw [beq_eq_false_iff_ne]; exact he
    have f2 : (k != 0) = true := by rw [bne_iff_ne]; exact hk
    clear he hk
    go_enter Try.func10, Try.ntmps10
    go_wp2_with fail
    refine (rates_true _).mono ?_
    rintro x w1 ⟨rfl, hb1⟩
    go_wp2_with fail
    refine (per_any A c l hs hlc hc a b u _ (by exact h.next hb1)).mono ?_
    rintro x w2 ⟨rfl, hb2⟩
    have hb2 := bnext hb1 hb2
    rw [HP.out, R2i]
    go_wp2_with fail
    refine (range_any A c l hlc hc a b _ (by exact h.next hb2)).mono ?_
    rintro x w3 ⟨v, rfl, A3, c3, rfl, hown3, hb3⟩
    have hb3 := bnext hb2 hb3
    rw [HC.out]
    have hcap := own_caps hown3
    go_wp2_with fail
    refine (per_any A3 c3 (rangeN l a b) hrs hcap.1 hcap.2 a b u _ (by exact Has.of_own hown3)).mono ?_
    rintro x w4 ⟨rfl, hb4⟩
    have hb4 := bnext hb3 hb4
    rw [HQ.out, R2i]
    go_wp2_with fail
    go_ret
    exact R1.mk (bool_eq (by simp)) hb4
end Go.Proofs.Ytcokpfjhlclnmaa
