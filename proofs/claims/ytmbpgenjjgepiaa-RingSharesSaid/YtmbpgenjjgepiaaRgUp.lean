/- Plain law: places in order rise; the nodes that a walk round them meets. No conditions. -/
import Derived.Test.YtmbpgenjjgepiaaRgBsf
import Derived.Test.YtmbpgenjjgepiaaIdxS
namespace Go.Proofs.Ytmbpgenjjgepiaa
open Go.RowKit Go.Sort

theorem plcs_up (M : List Plc) : UpP (plcs M) := by
  have h := List.pairwise_mergeSort (le := fun x y => !(ltOf cfP) y x)
    (fun x y z h1 h2 => by
      simp only [Bool.not_eq_true'] at h1 h2 ⊢
      exact swoP.ntrans z y x h2 h1)
    (fun x y => by
      cases h1 : ltOf cfP y x with
      | false => rfl
      | true =>
        cases h2 : ltOf cfP x y with
        | false => rfl
        | true => have := swoP.trans _ _ _ h1 h2; rw [swoP.irrefl] at this; cases this) M
  intro q r hqr hr
  have h1 := List.pairwise_iff_getElem.1 h q r (by unfold plcs at hr; omega) (by unfold plcs at hr; exact hr) hqr
  have e1 : at_ (plcs M) q = (plcs M)[q] := at_eq (by omega)
  have e2 : at_ (plcs M) r = (plcs M)[r] := at_eq hr
  rw [e1, e2]
  have h2 : ltOf cfP (plcs M)[r] (plcs M)[q] = false := by
    have h3 : (!(ltOf cfP) (plcs M)[r] (plcs M)[q]) = true := h1
    simpa using h3
  rw [cfP_neg, decide_eq_false_iff_not] at h2
  exact Nat.not_lt.1 (fun g => h2 (.inl g))
/-- the nodes met in k steps from place i on, at most m of them, each once -/
def ownGo (p : List Plc) (i m : Nat) : Nat → List ByteArray
  | 0 => []
  | k + 1 => let o := ownGo p i m k; let x := (at_ p ((i + k) % p.length)).nm; if o.length < m ∧ hasS x o = false then o ++ [x] else o
theorem ownGo_le (p : List Plc) (i m k : Nat) : (ownGo p i m k).length ≤ k := by
  induction k with
  | zero => simp [ownGo]
  | succ k ih => simp only [ownGo]; split; (rw [List.length_append]; simp; omega); omega
end Go.Proofs.Ytmbpgenjjgepiaa
