/- Sketches: plain laws. No program in sight. -/
import Derived.Test.YtkkadfjcnocopaaRowsI
namespace Go.Proofs.Ytkkadfjcnocopaa
open Go.RowKit

def leftR : Int → List Int → Option Int
  | x, [] => some x
  | x, n :: r => if n < 0 ∨ x < n then none else leftR (x - n) r
def rowK (C : List Int) (wd k : Nat) : List Int := (C.drop (k * wd)).take wd
def szOk (D W : Int) : Prop := 1 ≤ D ∧ D ≤ 8 ∧ 1 ≤ W ∧ W ≤ 200
instance (D W : Int) : Decidable (szOk D W) := by unfold szOk; exact inferInstance
def skOk (D W : Int) (C : List Int) (N : Int) : Prop := szOk D W ∧ (C.length : Int) = D * W ∧ 0 ≤ N ∧ N ≤ 1152921504606846976 ∧ ∀ k, k < D.toNat → leftR N (rowK C W.toNat k) = some 0
instance (D W : Int) (C : List Int) (N : Int) : Decidable (skOk D W C N) := by unfold skOk; exact inferInstance
def chkSk (D W : Int) (C : List Int) (N : Int) : Int := if skOk D W C N then 0 else 4
theorem rowK_len {C : List Int} {wd d k : Nat} (h : C.length = d * wd) (hk : k < d) : (rowK C wd k).length = wd := by
  unfold rowK
  rw [List.length_take, List.length_drop, h]
  have := Nat.mul_le_mul_right wd hk
  rw [Nat.succ_mul] at this
  omega
theorem leftR_step {x : Int} {r : List Int} {j : Nat} (hj : j < r.length) {z : Int} (h : leftR x r = leftR z (r.drop j)) : leftR x r = if at_ r j < 0 ∨ z < at_ r j then none else leftR (z - at_ r j) (r.drop (j + 1)) := by
  rw [h, drop_at hj]; rfl
end Go.Proofs.Ytkkadfjcnocopaa
