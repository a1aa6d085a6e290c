/- Texts of the proof of HouseAcks, joined (by merge.py). Conditions: each theorem's own hypotheses. -/
import Derived.Test.YtihjgbhnlejhfaaGreatDoorHouseAcksP13
import Derived.Shelf.SlSortCmp.InsertionK
import Derived.Sort.Statements
namespace Go.Proofs.YtihjgbhnlejhfaaGreatDoor
open Go.RowKit Go.Sort

theorem Plc.ext' {x y : Plc} (h : x.t = y.t) (h' : x.nm = y.nm) : x = y := by cases x; cases y; simp only at h h'; rw [h, h']
theorem cmpS_neg (x y : ByteArray) : cmpS x y < 0 ↔ nlt x y := by
  unfold cmpS
  by_cases h1 : nlt x y
  · simp [h1]
  · by_cases h2 : nlt y x <;> simp [h1, h2]
theorem cfP_neg (x y : Plc) : ltOf cfP x y = decide (x.t < y.t ∨ x.t = y.t ∧ nlt x.nm y.nm) := by
  unfold ltOf cfP
  rw [decide_eq_decide]
  rcases Nat.lt_trichotomy x.t y.t with h | h | h
  · have hi : cmpI x.t y.t = -1 := by unfold cmpI; rw [if_pos (by omega)]
    rw [hi]; simp [orL, h]
  · have hi : cmpI x.t y.t = 0 := by unfold cmpI; rw [if_neg (by omega), if_neg (by omega)]
    have ho : orL [0, cmpS x.nm y.nm] = cmpS x.nm y.nm := by
      by_cases hc : cmpS x.nm y.nm = 0 <;> simp [orL, hc]
    rw [hi, ho, cmpS_neg]; simp [h]
  · have hi : cmpI x.t y.t = 1 := by unfold cmpI; rw [if_neg (by omega), if_pos (by omega)]
    have h1 : ¬ x.t < y.t := by omega
    have h2 : ¬ x.t = y.t := by omega
    rw [hi]; simp [orL, h1, h2]

theorem nlt_ntrans {a b c : ByteArray} (h : ¬ nlt a b) (h' : ¬ nlt b c) : ¬ nlt a c := by
  have h1 := List.not_lt.1 h
  have h2 := List.not_lt.1 h'
  exact List.not_lt.2 (List.le_trans h2 h1)

theorem swoP : SWO (ltOf cfP) where
  irrefl x := by rw [cfP_neg]; simp [nlt_irrefl]
  trans x y z h1 h2 := by
    rw [cfP_neg, decide_eq_true_eq] at *
    rcases h1 with h1 | ⟨h1, h1'⟩ <;> rcases h2 with h2 | ⟨h2, h2'⟩
    · exact Or.inl (by omega)
    · exact Or.inl (by omega)
    · exact Or.inl (by omega)
    · exact Or.inr ⟨by omega, nlt_trans h1' h2'⟩
  ntrans x y z h1 h2 := by
    rw [cfP_neg, decide_eq_false_iff_not] at *
    rintro (h | ⟨h, h'⟩)
    · rcases Nat.lt_or_ge x.t y.t with h3 | h3
      · exact h1 (Or.inl h3)
      · exact h2 (Or.inl (by omega))
    · rcases Nat.lt_trichotomy x.t y.t with h3 | h3 | h3
      · exact h1 (Or.inl h3)
      · exact nlt_ntrans (fun k => h1 (Or.inr ⟨h3, k⟩)) (fun k => h2 (Or.inr ⟨by omega, k⟩)) h'
      · exact h2 (Or.inl (by omega))

theorem totP (x y : Plc) (h1 : ltOf cfP x y = false) (h2 : ltOf cfP y x = false) : x = y := by
  rw [cfP_neg, decide_eq_false_iff_not] at *
  have ht : x.t = y.t := by
    rcases Nat.lt_trichotomy x.t y.t with h | h | h
    · exact absurd (Or.inl h) h1
    · exact h
    · exact absurd (Or.inl h) h2
  exact Plc.ext' ht (nlt_tri (fun k => h1 (Or.inr ⟨ht, k⟩)) (fun k => h2 (Or.inr ⟨ht.symm, k⟩)))

/-- the places of a ring, put in order -/
def plcs (l : List Plc) : List Plc := l.mergeSort fun x y => !(ltOf cfP) y x
end Go.Proofs.YtihjgbhnlejhfaaGreatDoor
