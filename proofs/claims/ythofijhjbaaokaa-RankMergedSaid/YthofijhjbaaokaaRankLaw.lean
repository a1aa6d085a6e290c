/- Weights of ranks: plain laws. No program in sight. -/
import Derived.Test.YthofijhjbaaokaaSorted
import Derived.Test.YthofijhjbaaokaaRowsI
namespace Go.Proofs.Ythofijhjbaaokaa
open Go.RowKit

/-- how many lead a row that are not above x -/
def lead : List Int → Int → Nat
  | [], _ => 0
  | a :: l, x => if a ≤ x then lead l x + 1 else 0
theorem lead_le (l : List Int) (x : Int) : lead l x ≤ l.length := by
  induction l with
  | nil => simp [lead]
  | cons a l ih => rw [lead]; split <;> simp <;> omega
theorem lead_mono (l : List Int) {x y : Int} (h : x ≤ y) : lead l x ≤ lead l y := by
  induction l with
  | nil => simp [lead]
  | cons a l ih => rw [lead, lead]; split
                   · rw [if_pos (by omega)]; omega
                   · omega
theorem lead_all {l : List Int} {x : Int} (h : ∀ a ∈ l, a ≤ x) : lead l x = l.length := by
  induction l with
  | nil => rfl
  | cons a l ih => rw [lead, if_pos (h a (by simp)), ih (fun b hb => h b (by simp [hb]))]; rfl
theorem lead_eq {l : List Int} {x : Int} {j : Nat} (hj : ∀ q, q < j → q < l.length → at_ l q ≤ x) (hle : j ≤ l.length) (hend : j < l.length → x < at_ l j) : lead l x = j := by
  induction l generalizing j with
  | nil => simp at hle; rw [hle]; rfl
  | cons a l ih =>
    cases j with
    | zero =>
      have : x < a := hend (by simp)
      rw [lead, if_neg (by omega)]
    | succ j =>
      have h0 : a ≤ x := hj 0 (by omega) (by simp)
      rw [lead, if_pos h0]
      simp only [List.length_cons] at hle hend
      have es : ∀ q, at_ (a :: l) (q + 1) = at_ l q := fun q => by simp [at_, List.getD]
      rw [ih (j := j) (fun q h1 h2 => by have := hj (q + 1) (by omega) (by simp; omega); rwa [es] at this) (by omega) (fun h1 => by have := hend (by omega); rwa [es] at this)]

def lvOk (K : Int) (nl k : Nat) (l : List Int) : Bool := (decide ((l.length : Int) = K) || (decide (l.length = 0) && decide ((k : Int) < (nl : Int) - 1))) && srt l
def rkOk (K : Int) (L : List (List Int)) (b : Bool) : Nat → Bool
  | 0 => b
  | k + 1 => rkOk K L b k && lvOk K L.length k (at_ L k)
def rkN (K : Int) (L : List (List Int)) (n : Int) : Nat → Int
  | 0 => n
  | k + 1 => if (at_ L k).length = 0 then rkN K L n k else wrap64 (rkN K L n k + wrap64 (K * 2 ^ k))
def ok0 (K : Int) (T : List Int) (L : List (List Int)) (S : Int) : Bool := decide (2 ≤ K) && (decide (K ≤ 64) && (decide ((T.length : Int) < K) && (decide ((L.length : Int) ≤ 20) && (srt T && (decide (0 ≤ S) && decide (S ≤ 1152921504606846976))))))
def chkK (K : Int) (T : List Int) (L : List (List Int)) (N S : Int) : Int := if rkOk K L (ok0 K T L S) L.length = true ∧ rkN K L T.length L.length = N then 0 else 4
def wsum (T : List Int) (L : List (List Int)) (x : Int) : Nat → Int
  | 0 => (lead T x : Nat)
  | k + 1 => wrap64 (wsum T L x k + wrap64 ((lead (at_ L k) x : Nat) * 2 ^ k))
def weightN (K : Int) (T : List Int) (L : List (List Int)) (N S x : Int) : Int × Int := if chkK K T L N S = 0 then (wsum T L x L.length, 0) else (0, 4)

theorem chkK_cases (K : Int) (T : List Int) (L : List (List Int)) (N S : Int) : chkK K T L N S = 0 ∨ chkK K T L N S = 4 := by
  unfold chkK; split
  · exact .inl rfl
  · exact .inr rfl
theorem rkOk_all {K : Int} {L : List (List Int)} {b : Bool} {m : Nat} (h : rkOk K L b m = true) : b = true ∧ ∀ k, k < m → lvOk K L.length k (at_ L k) = true := by
  induction m with
  | zero => exact ⟨h, fun k hk => by omega⟩
  | succ m ih =>
    rw [rkOk, Bool.and_eq_true] at h
    obtain ⟨h1, h2⟩ := ih h.1
    refine ⟨h1, fun k hk => ?_⟩
    rcases Nat.lt_or_ge k m with h3 | h3
    · exact h2 k h3
    · rw [show k = m by omega]; exact h.2
theorem lvOk_len {K : Int} {nl k : Nat} {l : List Int} (h : lvOk K nl k l = true) : (l.length : Int) = K ∨ l.length = 0 := by
  unfold lvOk at h
  simp only [Bool.and_eq_true, Bool.or_eq_true, decide_eq_true_eq] at h
  rcases h.1 with h | h
  · exact .inl h
  · exact .inr h.1
theorem ok0_facts {K : Int} {T : List Int} {L : List (List Int)} {S : Int} (h : ok0 K T L S = true) : 2 ≤ K ∧ K ≤ 64 ∧ (T.length : Int) < K ∧ (L.length : Int) ≤ 20 := by
  unfold ok0 at h
  simp only [Bool.and_eq_true, decide_eq_true_eq] at h
  exact ⟨h.1, h.2.1, h.2.2.1, h.2.2.2.1⟩
/-- the sums without a bound -/
def wN (T : List Int) (L : List (List Int)) (x : Int) : Nat → Nat
  | 0 => lead T x
  | k + 1 => wN T L x k + lead (at_ L k) x * 2 ^ k
theorem wN_le {T : List Int} {L : List (List Int)} {x : Int} (hT : T.length ≤ 64) (hL : ∀ k, (at_ L k).length ≤ 64) (k : Nat) : wN T L x k ≤ 64 * 2 ^ k := by
  induction k with
  | zero => have := lead_le T x; rw [wN]; omega
  | succ k ih =>
    have h1 := lead_le (at_ L k) x
    have h2 := hL k
    have h3 : lead (at_ L k) x * 2 ^ k ≤ 64 * 2 ^ k := Nat.mul_le_mul_right _ (by omega)
    rw [wN, Nat.pow_succ]
    omega
theorem wN_mono {T : List Int} {L : List (List Int)} {x y : Int} (h : x ≤ y) (k : Nat) : wN T L x k ≤ wN T L y k := by
  induction k with
  | zero => exact lead_mono T h
  | succ k ih => rw [wN, wN]; exact Nat.add_le_add ih (Nat.mul_le_mul_right _ (lead_mono _ h))
theorem wrap_id {z : Int} (h : -9223372036854775808 ≤ z ∧ z ≤ 9223372036854775807) : wrap64 z = z := by unfold wrap64; omega
theorem wsum_eq {T : List Int} {L : List (List Int)} {x : Int} (hT : T.length ≤ 64) (hL : ∀ k, (at_ L k).length ≤ 64) {k : Nat} (hk : k ≤ 20) : wsum T L x k = (wN T L x k : Nat) := by
  induction k with
  | zero => rfl
  | succ k ih =>
    have h1 := wN_le (x := x) hT hL (k + 1)
    have h2 : 64 * 2 ^ (k + 1) ≤ 64 * 2 ^ 20 := Nat.mul_le_mul_left _ (Nat.pow_le_pow_right (by decide) hk)
    have h3 : 64 * 2 ^ 20 = 67108864 := by decide
    rw [wN] at h1
    have e : ((lead (at_ L k) x : Nat) : Int) * 2 ^ k = ((lead (at_ L k) x * 2 ^ k : Nat) : Int) := by rw [Int.natCast_mul, Int.natCast_pow]; rfl
    have i1 : wrap64 ((lead (at_ L k) x * 2 ^ k : Nat) : Int) = ((lead (at_ L k) x * 2 ^ k : Nat) : Int) := wrap_id (by omega)
    rw [wsum, ih (by omega), e, i1, ← Int.natCast_add, wrap_id (by omega), wN]
theorem rkN_eq {K : Int} {T : List Int} {L : List (List Int)} {x : Int} (hK : 0 ≤ K) (hTl : T.length ≤ 64) (hT : ∀ a ∈ T, a ≤ x) (hx : ∀ k, k < L.length → ∀ a ∈ at_ L k, a ≤ x) (hl : ∀ k, k < L.length → ((at_ L k).length : Int) = K ∨ (at_ L k).length = 0) {k : Nat} (hk : k ≤ L.length) : rkN K L T.length k = wsum T L x k := by
  induction k with
  | zero => rw [rkN, wsum, lead_all hT]
  | succ k ih =>
    rw [rkN, wsum, ih (by omega), lead_all (hx k (by omega))]
    rcases hl k (by omega) with h | h
    · by_cases h0 : (at_ L k).length = 0
      · rw [if_pos h0]
        have : K = 0 := by omega
        rw [h0]
        have e : wrap64 (((0 : Nat) : Int) * 2 ^ k) = 0 := by rw [Int.natCast_zero, Int.zero_mul]; exact wrap_id (by omega)
        rw [e, Int.add_zero]
        cases k with
        | zero => rw [wsum]; exact (wrap_id (by have := lead_le T x; omega)).symm
        | succ k => rw [wsum]; unfold wrap64; omega
      · rw [if_neg h0, h]
    · rw [if_pos h, h]
      have e : wrap64 (((0 : Nat) : Int) * 2 ^ k) = 0 := by rw [Int.natCast_zero, Int.zero_mul]; exact wrap_id (by omega)
      rw [e, Int.add_zero]
      cases k with
      | zero => rw [wsum]; exact (wrap_id (by have := lead_le T x; omega)).symm
      | succ k => rw [wsum]; unfold wrap64; omega
end Go.Proofs.Ythofijhjbaaokaa
