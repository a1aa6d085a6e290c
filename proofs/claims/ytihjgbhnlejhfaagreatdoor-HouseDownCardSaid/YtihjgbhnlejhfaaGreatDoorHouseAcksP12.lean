/- Texts of the proof of HouseAcks, joined (by merge.py). Conditions: each theorem's own hypotheses. -/
import Derived.Test.YtihjgbhnlejhfaaGreatDoorHouseAcksP3
import Derived.Sort.Walk0
namespace Go.Proofs.YtihjgbhnlejhfaaGreatDoor
open Go.RowKit

theorem bytes_ext {a b : ByteArray} (h : a.toList = b.toList) : a = b := by
  rw [Lib.toList_data, Lib.toList_data] at h
  cases a; cases b
  simp only [] at h
  rw [Array.toList_inj.1 h]
/-- names in their order -/
def nlt (a b : ByteArray) : Prop := a.toList < b.toList
instance (a b : ByteArray) : Decidable (nlt a b) := by unfold nlt; exact inferInstance
theorem nlt_irrefl (a : ByteArray) : ¬ nlt a a := List.lt_irrefl _
theorem nlt_trans {a b c : ByteArray} (h : nlt a b) (h' : nlt b c) : nlt a c := List.lt_trans h h'
theorem nlt_asymm {a b : ByteArray} (h : nlt a b) : ¬ nlt b a := fun h' => nlt_irrefl _ (nlt_trans h h')
theorem nlt_tri {a b : ByteArray} (h : ¬ nlt a b) (h' : ¬ nlt b a) : a = b := bytes_ext (List.le_antisymm (List.not_lt.1 h') (List.not_lt.1 h))
theorem nlt_ne {a b : ByteArray} (h : nlt a b) : a ≠ b := fun e => nlt_irrefl b (by rw [e] at h; exact h)
theorem nlt_bytes (a b : ByteArray) : Op.bytesLess a.toList b.toList = decide (nlt a b) := bytesLess_eq _ _
end Go.Proofs.YtihjgbhnlejhfaaGreatDoor
