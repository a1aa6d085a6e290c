/- Sketches, what adding does: plain laws. No program in sight. -/
import Derived.Test.YtkkadfjcnocopaaSkAdd
namespace Go.Proofs.Ytkkadfjcnocopaa
open Go.RowKit

def sumL : List Int → Int
  | [] => 0
  | a :: l => a + sumL l
theorem sumL_nonneg {l : List Int} (h : ∀ a ∈ l, 0 ≤ a) : 0 ≤ sumL l := by
  induction l with
  | nil => exact Int.le_refl _
  | cons a l ih =>
    have h1 := h a (by simp)
    have h2 := ih (fun b hb => h b (by simp [hb]))
    rw [sumL]; omega
theorem leftR_iff {z : Int} {R : List Int} : leftR z R = some 0 ↔ (∀ a ∈ R, 0 ≤ a) ∧ sumL R = z := by
  induction R generalizing z with
  | nil => rw [leftR, sumL]; simp [eq_comm]
  | cons a R ih =>
    rw [leftR, sumL]
    constructor
    · intro h
      split at h
      · simp at h
      · rename_i hc
        obtain ⟨h1, h2⟩ := ih.1 h
        refine ⟨fun b hb => ?_, by omega⟩
        rcases List.mem_cons.1 hb with rfl | hb
        · omega
        · exact h1 b hb
    · rintro ⟨h1, h2⟩
      have ha := h1 a (by simp)
      have hR : ∀ b ∈ R, 0 ≤ b := fun b hb => h1 b (by simp [hb])
      have hs := sumL_nonneg hR
      rw [if_neg (by omega)]
      exact ih.2 ⟨hR, by omega⟩
theorem sumL_set {l : List Int} {j : Nat} (hj : j < l.length) (v : Int) : sumL (l.set j v) = sumL l - at_ l j + v := by
  induction l generalizing j with
  | nil => simp at hj
  | cons a l ih =>
    cases j with
    | zero => rw [List.set_cons_zero, sumL, sumL]; show v + sumL l = a + sumL l - a + v; omega
    | succ j =>
      rw [List.set_cons_succ, sumL, sumL, ih (by simpa using hj)]
      show a + (sumL l - at_ l j + v) = a + sumL l - at_ l j + v
      omega
theorem at_le_sum {l : List Int} (h : ∀ a ∈ l, 0 ≤ a) {j : Nat} (hj : j < l.length) : 0 ≤ at_ l j ∧ at_ l j ≤ sumL l := by
  refine ⟨h _ (at_mem hj), ?_⟩
  have h1 := sumL_set hj 0
  have h2 : 0 ≤ sumL (l.set j 0) := sumL_nonneg (fun a ha => (List.mem_or_eq_of_mem_set ha).elim (h a) (fun e => by rw [e]; exact Int.le_refl _))
  omega
theorem rows_apart {wd a b p q : Nat} (hp : p < wd) (hq : q < wd) (h : a * wd + p = b * wd + q) : a = b ∧ p = q := by
  rcases Nat.lt_trichotomy a b with h1 | h1 | h1
  · have := Nat.mul_le_mul_right wd h1
    rw [Nat.succ_mul] at this
    omega
  · subst h1; exact ⟨rfl, by omega⟩
  · have := Nat.mul_le_mul_right wd h1
    rw [Nat.succ_mul] at this
    omega
theorem row_get (C : List Int) (wd i j : Nat) : (rowK C wd i)[j]? = if j < wd then C[i * wd + j]? else none := by
  unfold rowK
  rw [List.getElem?_take]
  split
  · rw [List.getElem?_drop]
  · rfl
theorem at_row {C : List Int} {wd i q : Nat} (hq : q < wd) : at_ (rowK C wd i) q = at_ C (i * wd + q) := by
  simp only [at_, List.getD, row_get, if_pos hq]
theorem row_set {C : List Int} {wd k q i : Nat} {v : Int} (hq : q < wd) : rowK (C.set (k * wd + q) v) wd i = if i = k then (rowK C wd i).set q v else rowK C wd i := by
  apply List.ext_getElem?
  intro j
  rw [row_get]
  split
  · rename_i hj
    rw [List.getElem?_set]
    split
    · rename_i he
      obtain ⟨h1, h2⟩ := rows_apart hq hj he
      subst h1 h2
      rw [if_pos rfl, List.getElem?_set, if_pos rfl]
      have : (rowK C wd k).length = min wd (C.length - k * wd) := by unfold rowK; rw [List.length_take, List.length_drop]
      by_cases hc : k * wd + q < C.length
      · rw [if_pos hc, if_pos (by omega)]
      · rw [if_neg hc, if_neg (by omega)]
    · rename_i hne
      split
      · rename_i hik
        rw [List.getElem?_set, if_neg (fun e => hne (by rw [hik, e])), row_get, if_pos hj]
      · rw [row_get, if_pos hj]
  · rename_i hj
    split
    · rw [List.getElem?_set]
      split
      · rename_i h; omega
      · rw [row_get, if_neg hj]
    · rw [row_get, if_neg hj]
/-- the part's own place of a key -/
def qN (s : ByteArray) (wd i : Nat) : Nat := ofN i (byt s) % wd
theorem qN_lt {s : ByteArray} {wd i : Nat} (h : 1 ≤ wd) : qN s wd i < wd := Nat.mod_lt _ h
theorem cellN_eq (s : ByteArray) (wd i : Nat) : cellN s wd i = i * wd + qN s wd i := rfl

section
variable {d wd : Nat} {C : List Int} {N n : Int} {s : ByteArray}
theorem addC_rows (d3 : 1 ≤ wd) (hl : C.length = d * wd) (n0 : 0 ≤ n) (hn : N + n ≤ 1152921504606846976) (hrow : ∀ k, k < d → leftR N (rowK C wd k) = some 0) : ∀ K, K ≤ d → ∀ i, i < d →
    rowK (addC C n s wd K) wd i = if i < K then (rowK C wd i).set (qN s wd i) (at_ (rowK C wd i) (qN s wd i) + n) else rowK C wd i
  | 0, _, i, _ => by rw [if_neg (by omega)]; rfl
  | K + 1, hK, i, hi => by
    have ih := addC_rows d3 hl n0 hn hrow K (by omega)
    rw [addC, cellN_eq, row_set (qN_lt d3), ih i hi]
    by_cases hik : i = K
    · subst hik
      rw [if_pos rfl, if_neg (Nat.lt_irrefl _), if_pos (Nat.lt_succ_self _), ← at_row (qN_lt d3), ih i hi, if_neg (Nat.lt_irrefl _)]
      obtain ⟨h1, h2⟩ := leftR_iff.1 (hrow i hi)
      obtain ⟨h3, h4⟩ := at_le_sum h1 (j := qN s wd i) (by rw [rowK_len hl hi]; exact qN_lt d3)
      have : wrap64 (at_ (rowK C wd i) (qN s wd i) + n) = at_ (rowK C wd i) (qN s wd i) + n := by unfold wrap64; omega
      rw [this]
    · rw [if_neg hik]
      by_cases h : i < K
      · rw [if_pos h, if_pos (by omega)]
      · rw [if_neg h, if_neg (by omega)]
theorem addC_row (d3 : 1 ≤ wd) (hl : C.length = d * wd) (n0 : 0 ≤ n) (hn : N + n ≤ 1152921504606846976) (hrow : ∀ k, k < d → leftR N (rowK C wd k) = some 0) {i : Nat} (hi : i < d) :
    rowK (addC C n s wd d) wd i = (rowK C wd i).set (qN s wd i) (at_ (rowK C wd i) (qN s wd i) + n) := by
  rw [addC_rows (N := N) (s := s) d3 hl n0 hn hrow d (Nat.le_refl _) i hi, if_pos hi]
theorem addC_ok (d3 : 1 ≤ wd) (hl : C.length = d * wd) (n0 : 0 ≤ n) (hn : N + n ≤ 1152921504606846976) (hrow : ∀ k, k < d → leftR N (rowK C wd k) = some 0) : ∀ k, k < d → leftR (N + n) (rowK (addC C n s wd d) wd k) = some 0 := by
  intro k hk
  rw [addC_row (N := N) d3 hl n0 hn hrow hk]
  obtain ⟨h1, h2⟩ := leftR_iff.1 (hrow k hk)
  have hq : qN s wd k < (rowK C wd k).length := by rw [rowK_len hl hk]; exact qN_lt d3
  obtain ⟨h3, h4⟩ := at_le_sum h1 hq
  refine leftR_iff.2 ⟨fun a ha => (List.mem_or_eq_of_mem_set ha).elim (h1 a) (fun e => by rw [e]; omega), ?_⟩
  rw [sumL_set hq]; omega
theorem addC_at (d3 : 1 ≤ wd) (hl : C.length = d * wd) (n0 : 0 ≤ n) (hn : N + n ≤ 1152921504606846976) (hrow : ∀ k, k < d → leftR N (rowK C wd k) = some 0) {i q : Nat} (hi : i < d) (hq : q < wd) :
    at_ (addC C n s wd d) (i * wd + q) = if q = qN s wd i then at_ C (i * wd + q) + n else at_ C (i * wd + q) := by
  rw [← at_row hq, addC_row (N := N) d3 hl n0 hn hrow hi]
  have hl' : (rowK C wd i).length = wd := rowK_len hl hi
  by_cases h : q = qN s wd i
  · rw [if_pos h, ← h, ← at_row hq]
    simp only [at_, List.getD, List.getElem?_set, if_pos, hl', hq, Option.getD_some]
  · rw [if_neg h, ← at_row hq]
    simp only [at_, List.getD, List.getElem?_set]
    rw [if_neg (fun e => h e.symm)]
theorem least_in (d3 : 1 ≤ wd) (hl : C.length = d * wd) (n0 : 0 ≤ N) (hrow : ∀ k, k < d → leftR N (rowK C wd k) = some 0) : ∀ k, k ≤ d → 0 ≤ leastN C N s wd k ∧ leastN C N s wd k ≤ N
  | 0, _ => ⟨n0, Int.le_refl _⟩
  | k + 1, hk => by
    have ih := least_in d3 hl n0 hrow k (by omega)
    obtain ⟨h1, h2⟩ := leftR_iff.1 (hrow k (by omega))
    obtain ⟨h3, h4⟩ := at_le_sum h1 (j := qN s wd k) (by rw [rowK_len hl (by omega)]; exact qN_lt d3)
    rw [at_row (qN_lt d3)] at h3 h4
    rw [leastN, cellN_eq]
    omega
theorem least_own (d3 : 1 ≤ wd) (hl : C.length = d * wd) (n0 : 0 ≤ n) (hn : N + n ≤ 1152921504606846976) (hrow : ∀ k, k < d → leftR N (rowK C wd k) = some 0) : ∀ k, k ≤ d → leastN (addC C n s wd d) (N + n) s wd k = leastN C N s wd k + n
  | 0, _ => rfl
  | k + 1, hk => by
    rw [leastN, leastN, least_own d3 hl n0 hn hrow k (by omega), cellN_eq, addC_at (N := N) d3 hl n0 hn hrow (by omega) (qN_lt d3), if_pos rfl]
    omega
theorem least_other (t : ByteArray) (d3 : 1 ≤ wd) (hl : C.length = d * wd) (n0 : 0 ≤ n) (hn : N + n ≤ 1152921504606846976) (hrow : ∀ k, k < d → leftR N (rowK C wd k) = some 0) : ∀ k, k ≤ d → leastN C N t wd k ≤ leastN (addC C n s wd d) (N + n) t wd k ∧ leastN (addC C n s wd d) (N + n) t wd k ≤ leastN C N t wd k + n
  | 0, _ => by rw [leastN, leastN]; omega
  | k + 1, hk => by
    have ih := least_other t d3 hl n0 hn hrow k (by omega)
    rw [leastN, leastN, cellN_eq, addC_at (N := N) d3 hl n0 hn hrow (by omega) (qN_lt d3)]
    split <;> omega
theorem addC_twice {m : Int} (d3 : 1 ≤ wd) (hl : C.length = d * wd) (n0 : 0 ≤ n) (m0 : 0 ≤ m) (hn : N + n + m ≤ 1152921504606846976) (hrow : ∀ k, k < d → leftR N (rowK C wd k) = some 0) : addC (addC C n s wd d) m s wd d = addC C (n + m) s wd d := by
  have hl' : (addC C n s wd d).length = d * wd := by rw [addC_len, hl]
  have hr' := addC_ok (s := s) d3 hl n0 (by omega) hrow
  apply List.ext_getElem
  · rw [addC_len, addC_len, addC_len]
  · intro j h1 h2
    rw [← at_eq h1, ← at_eq h2]
    have hj : j < d * wd := by rw [addC_len, hl'] at h1; exact h1
    have hi : j / wd < d := Nat.div_lt_of_lt_mul (by rw [Nat.mul_comm]; exact hj)
    have hq := Nat.mod_lt j d3
    have hjj : j / wd * wd + j % wd = j := by rw [Nat.mul_comm]; exact Nat.div_add_mod _ _
    have e1 := addC_at (N := N + n) (n := m) (s := s) d3 hl' m0 (by omega) hr' hi hq
    have e2 := addC_at (N := N) (n := n) (s := s) d3 hl n0 (by omega) hrow hi hq
    have e3 := addC_at (N := N) (n := n + m) (s := s) d3 hl (by omega) (by omega) hrow hi hq
    rw [hjj] at e1 e2 e3
    rw [e1, e2, e3]
    split <;> omega
end
end Go.Proofs.Ytkkadfjcnocopaa
