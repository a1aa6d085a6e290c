/- The plain laws of a number's bytes: what is put is taken, and what is taken was put. No program in sight. -/
import Derived.Test.YtmbpgenjjgepiaaDoorTake
namespace Go.Proofs.YtmbpgenjjgepiaaDoor

theorem takeGo_put (rest : List Nat) : ∀ (v k u : Nat), u + v * 128 ^ k < 18446744073709551616 → (0 < k → 0 < v) → takeGo k u (putL v ++ rest) = (u + v * 128 ^ k, k + (putL v).length, 0) := by
  intro v
  induction v using Nat.strongRecOn with
  | _ v ih =>
    intro k u hlt hpos
    have h9 : k = 9 → v ≤ 1 := by
      rintro rfl
      rcases Nat.lt_or_ge v 2 with h | h
      · omega
      · have h1 : 2 * 128 ^ 9 ≤ v * 128 ^ 9 := Nat.mul_le_mul_right _ h
        have h2 : (18446744073709551616 : Nat) ≤ 2 * 128 ^ 9 := by decide +kernel
        exact absurd (Nat.lt_of_le_of_lt (Nat.le_trans (Nat.le_trans h2 h1) (Nat.le_add_left _ _)) hlt) (Nat.lt_irrefl _)
    rcases Nat.lt_or_ge v 128 with h | h
    · rw [putL_small h, List.cons_append, takeGo, if_neg (by rintro (⟨h1, h2⟩ | ⟨h1, h2⟩) <;> omega), if_pos h, Nat.mod_eq_of_lt h]
      rfl
    · rw [putL_big h, List.cons_append, takeGo, if_neg (by rintro (⟨h1, h2⟩ | ⟨h1, h2⟩) <;> omega), if_neg (by omega)]
      have e : u + (v % 128 + 128) % 128 * 128 ^ k + v / 128 * 128 ^ (k + 1) = u + v * 128 ^ k := by
        have h1 : v * 128 ^ k = (128 * (v / 128) + v % 128) * 128 ^ k := by rw [Nat.div_add_mod]
        rw [h1, Nat.pow_succ, Nat.add_mul, show (v % 128 + 128) % 128 = v % 128 from by omega, Nat.mul_comm (128 ^ k) 128, ← Nat.mul_assoc, Nat.mul_comm (v / 128) 128]
        omega
      rw [ih (v / 128) (by omega) (k + 1) _ (by rw [e]; exact hlt) (fun _ => by omega), e, List.length_cons]
      congr 2
      omega
theorem takeN_put {u : Nat} (h : u < 18446744073709551616) (rest : List Nat) : takeN (putL u ++ rest) = (u, (putL u).length, 0) := by
  have := takeGo_put rest u 0 0 (by simpa using h) (by omega)
  simpa [takeN] using this

theorem takeGo_ok : ∀ (l : List Nat) (k u x j : Nat), Bytes l → takeGo k u l = (x, j, 0) → ∃ v, (0 < k → 0 < v) ∧ k < j ∧ j ≤ k + l.length ∧ x = u + v * 128 ^ k ∧ putL v = l.take (j - k)
  | [], k, u, x, j, _, h => by simp [takeGo] at h
  | b :: l, k, u, x, j, hb, h => by
    have hb0 := hb b List.mem_cons_self
    rw [takeGo] at h
    split at h
    · simp at h
    · rename_i hf
      split at h
      · rename_i hs
        simp only [Prod.mk.injEq] at h
        obtain ⟨rfl, rfl, _⟩ := h
        refine ⟨b, by omega, by omega, by simp, by rw [Nat.mod_eq_of_lt hs], ?_⟩
        rw [putL_small hs, show k + 1 - k = 1 from by omega]
        rfl
      · rename_i hs
        obtain ⟨v, h1, h2, h3, h4, h5⟩ := takeGo_ok l (k + 1) _ x j (fun y hy => hb y (List.mem_cons_of_mem _ hy)) h
        have hv := h1 (by omega)
        refine ⟨128 * v + b % 128, by omega, by omega, by simp only [List.length_cons]; omega, ?_, ?_⟩
        · rw [h4, Nat.pow_succ, Nat.add_mul, Nat.mul_comm (128 ^ k) 128, ← Nat.mul_assoc, Nat.mul_comm v 128]
          omega
        · rw [putL_big (by omega), show (128 * v + b % 128) / 128 = v from by omega, h5, show (128 * v + b % 128) % 128 + 128 = b from by omega, show j - k = (j - (k + 1)) + 1 from by omega]
          rfl
theorem takeN_ok {l : List Nat} {x j : Nat} (hb : Bytes l) (h : takeN l = (x, j, 0)) : 1 ≤ j ∧ j ≤ l.length ∧ putL x = l.take j := by
  obtain ⟨v, _, h2, h3, h4, h5⟩ := takeGo_ok l 0 0 x j hb h
  simp at h4 h5 h3
  exact ⟨h2, h3, by rw [h4]; exact h5⟩
theorem takeGo_bad : ∀ (l : List Nat) (k u : Nat), (takeGo k u l).2.2 = 0 ∨ takeGo k u l = (0, 0, 3) ∨ takeGo k u l = (0, 0, 4)
  | [], _, _ => .inr (.inl rfl)
  | b :: l, k, u => by
    rw [takeGo]
    split
    · exact .inr (.inr rfl)
    · split
      · exact .inl rfl
      · exact takeGo_bad l _ _
theorem takeGo_lt : ∀ (l : List Nat) (k u x j e : Nat), Bytes l → k ≤ 9 → u < 128 ^ k → takeGo k u l = (x, j, e) → x < 18446744073709551616
  | [], k, u, x, j, e, _, _, _, h => by simp [takeGo] at h; omega
  | b :: l, k, u, x, j, e, hb, hk, hu, h => by
    have hb0 := hb b List.mem_cons_self
    rw [takeGo] at h
    split at h
    · simp at h; omega
    · rename_i hf
      have h1 := take_next (b := b) hu
      split at h
      · simp only [Prod.mk.injEq] at h
        rcases Nat.lt_or_ge k 9 with h9 | h9
        · rw [← h.1]
          have h2 : (128 : Nat) ^ (k + 1) ≤ 128 ^ 9 := Nat.pow_le_pow_right (by decide) (by omega)
          have h3 : (128 : Nat) ^ 9 < 18446744073709551616 := by decide +kernel
          exact Nat.lt_of_lt_of_le h1 (Nat.le_trans h2 (Nat.le_of_lt h3))
        · obtain rfl : k = 9 := by omega
          rw [← h.1]
          have hb1 : b ≤ 1 := by omega
          have h2 : b % 128 * 128 ^ 9 ≤ 1 * 128 ^ 9 := Nat.mul_le_mul_right _ (by omega)
          have h3 : (128 : Nat) ^ 9 + 1 * 128 ^ 9 = 18446744073709551616 := by decide +kernel
          exact h3 ▸ Nat.add_lt_add_of_lt_of_le hu h2
      · exact takeGo_lt l (k + 1) _ x j e (fun y hy => hb y (List.mem_cons_of_mem _ hy)) (by omega) h1 h
theorem takeN_lt {l : List Nat} {x j e : Nat} (hb : Bytes l) (h : takeN l = (x, j, e)) : x < 18446744073709551616 := takeGo_lt l 0 0 x j e hb (by omega) (by decide) h
end Go.Proofs.YtmbpgenjjgepiaaDoor
