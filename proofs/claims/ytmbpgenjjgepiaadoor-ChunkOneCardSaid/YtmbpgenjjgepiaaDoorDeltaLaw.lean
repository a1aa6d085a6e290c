/- Times as bits: plain laws. No program in sight. -/
import Derived.Test.YtmbpgenjjgepiaaDoorWriterLaw
namespace Go.Proofs.YtmbpgenjjgepiaaDoor
open Go.RowKit

/-- a number of 64 bits, without its sign -/
def u64I (c : Int) : Nat := (c % 18446744073709551616).toNat
theorem u64I_lt (c : Int) : u64I c < 18446744073709551616 := by unfold u64I; omega
def fitsI (c : Int) (w : Nat) : Prop := if w = 0 then c = 0 else -(2 ^ (w - 1)) ≤ c ∧ c < 2 ^ (w - 1)
instance (c : Int) (w : Nat) : Decidable (fitsI c w) := by unfold fitsI; exact inferInstance
/-- the row of the table that a change takes: its mark, of how many bits, and how many follow -/
def rowOf (c : Int) : Nat := if c = 0 then 0 else if -64 ≤ c ∧ c < 64 then 1 else if -256 ≤ c ∧ c < 256 then 2 else if -2048 ≤ c ∧ c < 2048 then 3 else 4
def markOf : Nat → Nat × Nat × Nat
  | 0 => (0, 1, 0)
  | 1 => (2, 2, 7)
  | 2 => (6, 3, 9)
  | 3 => (14, 4, 12)
  | _ => (15, 4, 64)
def chg (c : Int) : List Bool := toB (markOf (rowOf c)).1 (markOf (rowOf c)).2.1 ++ toB (u64I c) (markOf (rowOf c)).2.2
theorem rowOf_le (c : Int) : rowOf c ≤ 4 := by unfold rowOf; repeat' split
                                               all_goals omega
theorem chg_len (c : Int) : (chg c).length ≤ 68 := by
  unfold chg
  rw [List.length_append, toB_len, toB_len]
  have := rowOf_le c
  rcases (show rowOf c = 0 ∨ rowOf c = 1 ∨ rowOf c = 2 ∨ rowOf c = 3 ∨ rowOf c = 4 by omega) with h | h | h | h | h <;> rw [h] <;> decide
/-- the change of a time, the step and the last one known -/
def chgOf (last step t : Int) : Int := wrap64 (wrap64 (t - last) - step)
def packR (last step : Int) : List Int → List Bool
  | [] => []
  | t :: r => chg (chgOf last step t) ++ packR t (wrap64 (t - last)) r
def packF : List Int → List Bool
  | [] => []
  | t :: r => toB (u64I t) 64 ++ packR t 0 r
def packT (l : List Int) : List Bool := toB l.length 16 ++ packF l
def packN (l : List Int) : (List Nat × Int) × Int := if 1000 < l.length then (([], 0), 2) else ((packB (packT l), ((packT l).length : Int)), 0)

/-- the first k of a list -/
def lastOf (l : List Int) (k : Nat) : Int := if k = 0 then 0 else at_ l (k - 1)
def stepOf (l : List Int) (k : Nat) : Int := if k ≤ 1 then 0 else wrap64 (at_ l (k - 1) - at_ l (k - 2))
theorem packR_snoc (last step : Int) (l : List Int) (t : Int) : packR last step (l ++ [t]) = packR last step l ++ chg (chgOf (if l = [] then last else at_ l (l.length - 1)) (if l = [] then step else wrap64 (at_ l (l.length - 1) - (if l.length = 1 then last else at_ l (l.length - 2)))) t) := by
  induction l generalizing last step with
  | nil => simp [packR]
  | cons x l ih =>
    rw [List.cons_append, packR, packR, ih, List.append_assoc]
    congr 3
    cases l with
    | nil => simp [at_]
    | cons y l =>
      cases l with
      | nil => simp [at_]
      | cons z l =>
        have hb : l.length < (y :: z :: l).length := by simp only [List.length_cons]; omega
        simp [at_, List.getElem?_eq_getElem hb]
theorem packT_step {l : List Int} {k : Nat} (h : k < l.length) (hk : k ≠ 0) : packF (l.take (k + 1)) = packF (l.take k) ++ chg (chgOf (lastOf l k) (stepOf l k) (at_ l k)) := by
  have e : l.take (k + 1) = l.take k ++ [at_ l k] := by rw [List.take_add_one, List.getElem?_eq_getElem h, at_eq h]; rfl
  rw [e]
  cases l with
  | nil => simp at h
  | cons x l =>
    obtain ⟨j, rfl⟩ : ∃ j, k = j + 1 := ⟨k - 1, by omega⟩
    rw [List.take_succ_cons, List.cons_append, packF, packF, packR_snoc, List.append_assoc]
    congr 3
    simp only [List.length_cons] at h
    have hl : (l.take j).length = j := by rw [List.length_take]; omega
    have hat : ∀ i, i < j → at_ (l.take j) i = at_ l i := fun i hi => by rw [at_eq (by omega), at_eq (by omega), List.getElem_take]
    cases j with
    | zero => simp [lastOf, stepOf, at_]
    | succ j =>
      rw [if_neg (by intro e; rw [e] at hl; simp at hl), if_neg (by intro e; rw [e] at hl; simp at hl), hl]
      have h1 : lastOf (x :: l) (j + 1 + 1) = at_ l j := by simp [lastOf, at_]
      have h2 : stepOf (x :: l) (j + 1 + 1) = wrap64 (at_ l j - (if j = 0 then x else at_ l (j - 1))) := by
        cases j with
        | zero => simp [stepOf, at_]
        | succ j => simp [stepOf, at_]
      rw [h1, h2, show j + 1 - 1 = j by omega, hat j (by omega)]
      cases j with
      | zero => simp
      | succ j => rw [if_neg (by omega), if_neg (by omega), show j + 1 + 1 - 2 = j by omega, hat j (by omega)]; rfl
theorem packF_one {l : List Int} (h : 0 < l.length) : packF (l.take 1) = toB (u64I (at_ l 0)) 64 := by
  cases l with
  | nil => simp at h
  | cons x l => simp [packF, packR, at_]
theorem packR_len (last step : Int) (l : List Int) : (packR last step l).length ≤ 68 * l.length := by
  induction l generalizing last step with
  | nil => simp [packR]
  | cons t l ih =>
    rw [packR, List.length_append, List.length_cons]
    have := chg_len (chgOf last step t)
    have := ih t (wrap64 (t - last))
    omega
theorem packF_len (l : List Int) : (packF l).length ≤ 68 * l.length := by
  cases l with
  | nil => simp [packF]
  | cons t l =>
    rw [packF, List.length_append, toB_len, List.length_cons]
    have := packR_len t 0 l
    omega
end Go.Proofs.YtmbpgenjjgepiaaDoor
