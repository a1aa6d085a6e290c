/- Sets of numbers: plain laws. No program in sight. -/
import Derived.Test.YtmfndpkhcejffaaSrtLaw
namespace Go.Proofs.Ytmfndpkhcejffaa
open Go.RowKit

def setI (l : List Int) : List Int := Lib.compact (sortI l)
theorem setI_mem {l : List Int} {x : Int} : x ∈ setI l ↔ x ∈ l := by unfold setI; rw [mem_compactI, (sortI_perm l).mem_iff]
theorem setI_up (l : List Int) : UpI (setI l) := compact_rise (sortI_le l)
theorem setI_len (l : List Int) : (setI l).length ≤ l.length := by
  have := compact_le (l := sortI l)
  rw [sortI_len] at this
  exact this
def interI (x y : List Int) : List Int := x.filter fun v => decide (v ∈ y)
theorem interI_mem {a b : List Int} {x : Int} : x ∈ interI a b ↔ x ∈ a ∧ x ∈ b := by unfold interI; rw [List.mem_filter, decide_eq_true_iff]
theorem interI_nil_left (y : List Int) : interI [] y = [] := rfl
theorem interI_nil_right (x : List Int) : interI x [] = [] := by unfold interI; rw [List.filter_eq_nil_iff]; intro v _; simp
theorem interI_lt {x y : Int} {a b : List Int} (hb : UpI (y :: b)) (h : x < y) : interI (x :: a) (y :: b) = interI a (y :: b) := by
  unfold interI
  rw [List.filter_cons, if_neg]
  rw [decide_eq_true_iff, List.mem_cons]
  rintro (e | e)
  · omega
  · have := (List.pairwise_cons.1 hb).1 x e; omega
theorem interI_gt {x y : Int} {a b : List Int} (ha : UpI (x :: a)) (h : y < x) : interI (x :: a) (y :: b) = interI (x :: a) b := by
  unfold interI
  apply List.filter_congr
  intro v hv
  have hyv : v ≠ y := by
    rcases List.mem_cons.1 hv with rfl | hv
    · omega
    · have := (List.pairwise_cons.1 ha).1 v hv; omega
  rw [decide_eq_decide, List.mem_cons]
  exact ⟨fun h => h.resolve_left hyv, .inr⟩
theorem interI_eq {x : Int} {a b : List Int} (ha : UpI (x :: a)) : interI (x :: a) (x :: b) = x :: interI a b := by
  unfold interI
  rw [List.filter_cons, if_pos (by rw [decide_eq_true_iff]; exact List.mem_cons_self)]
  congr 1
  apply List.filter_congr
  intro v hv
  have hvx : v ≠ x := by have := (List.pairwise_cons.1 ha).1 v hv; omega
  rw [decide_eq_decide, List.mem_cons]
  exact ⟨fun h => h.resolve_left hvx, .inr⟩
theorem UpI.tail {x : Int} {a : List Int} (h : UpI (x :: a)) : UpI a := (List.pairwise_cons.1 h).2
def andI (a b : List Int) : List Int := interI (setI a) (setI b)
def orI (a b : List Int) : List Int := setI (a ++ b)
theorem andI_mem {a b : List Int} {x : Int} : x ∈ andI a b ↔ x ∈ a ∧ x ∈ b := by unfold andI; rw [interI_mem, setI_mem, setI_mem]
theorem andI_up (a b : List Int) : UpI (andI a b) := List.Pairwise.filter _ (setI_up a)
theorem orI_mem {a b : List Int} {x : Int} : x ∈ orI a b ↔ x ∈ a ∨ x ∈ b := by unfold orI; rw [setI_mem, List.mem_append]
theorem orI_up (a b : List Int) : UpI (orI a b) := setI_up _
theorem andI_len (a b : List Int) : (andI a b).length ≤ a.length := by
  unfold andI interI
  have h1 := List.length_filter_le (fun v => decide (v ∈ setI b)) (setI a)
  have h2 := setI_len a
  omega
theorem orI_len (a b : List Int) : (orI a b).length ≤ a.length + b.length := by
  have := setI_len (a ++ b)
  rw [List.length_append] at this
  exact this
/-- what is in none, up to a number -/
def upTo (n : Nat) : List Int := (List.range n).map Int.ofNat
theorem upTo_mem {n : Nat} {x : Int} : x ∈ upTo n ↔ 0 ≤ x ∧ x < n := by
  unfold upTo
  rw [List.mem_map]
  constructor
  · rintro ⟨k, hk, rfl⟩
    have := List.mem_range.1 hk
    exact ⟨Int.natCast_nonneg _, by show (k : Int) < n; omega⟩
  · rintro ⟨h1, h2⟩
    obtain ⟨k, rfl⟩ := Int.eq_ofNat_of_zero_le h1
    exact ⟨k, List.mem_range.2 (by omega), rfl⟩
theorem upTo_up (n : Nat) : UpI (upTo n) := by
  unfold upTo UpI
  rw [List.pairwise_map]
  exact List.pairwise_lt_range.imp (fun {a b} (h : a < b) => by show (a : Int) < (b : Int); omega)
theorem upTo_succ (n : Nat) : upTo (n + 1) = upTo n ++ [(n : Int)] := by unfold upTo; rw [List.range_succ, List.map_append]; rfl
def noneI (n : Nat) (a : List Int) : List Int := (upTo n).filter fun x => !decide (x ∈ a)
theorem noneI_mem {n : Nat} {a : List Int} {x : Int} : x ∈ noneI n a ↔ (0 ≤ x ∧ x < n) ∧ x ∉ a := by unfold noneI; rw [List.mem_filter, upTo_mem]; simp
theorem noneI_up (n : Nat) (a : List Int) : UpI (noneI n a) := List.Pairwise.filter _ (upTo_up n)
theorem noneI_len (n : Nat) (a : List Int) : (noneI n a).length ≤ n := by
  unfold noneI
  have := List.length_filter_le (fun x => !decide (x ∈ a)) (upTo n)
  unfold upTo at this
  rw [List.length_map, List.length_range] at this
  exact this
theorem noneI_succ (n : Nat) (a : List Int) : noneI (n + 1) a = noneI n a ++ if (n : Int) ∈ a then [] else [(n : Int)] := by
  unfold noneI
  rw [upTo_succ, List.filter_append]
  congr 1
  by_cases h : (n : Int) ∈ a
  · rw [if_pos h]; simp [h]
  · rw [if_neg h]; simp [h]
def notI (n : Int) (a : List Int) : List Int × Int := if n < 0 ∨ 1000 < n then ([], 1) else (noneI n.toNat (setI a), 0)
/-- BOOLE -/
theorem boole1 (a b : List Int) : andI a b = andI b a := up_ext (andI_up _ _) (andI_up _ _) fun x => by rw [andI_mem, andI_mem, and_comm]
theorem boole2 (a b : List Int) : orI a b = orI b a := up_ext (orI_up _ _) (orI_up _ _) fun x => by rw [orI_mem, orI_mem, or_comm]
theorem boole3 (a b c : List Int) : andI a (orI b c) = orI (andI a b) (andI a c) := up_ext (andI_up _ _) (orI_up _ _) fun x => by
  rw [andI_mem, orI_mem, orI_mem, andI_mem, andI_mem]
  by_cases h1 : x ∈ a <;> by_cases h2 : x ∈ b <;> simp [h1, h2]
theorem boole4 (a b c : List Int) : orI a (andI b c) = andI (orI a b) (orI a c) := up_ext (orI_up _ _) (andI_up _ _) fun x => by
  rw [orI_mem, andI_mem, andI_mem, orI_mem, orI_mem]
  by_cases h1 : x ∈ a <;> by_cases h2 : x ∈ b <;> simp [h1, h2]
theorem boole5 (a b : List Int) : andI a (orI a b) = orI a [] := up_ext (andI_up _ _) (orI_up _ _) fun x => by
  rw [andI_mem, orI_mem, orI_mem]
  by_cases h1 : x ∈ a <;> simp [h1]
theorem boole6 (a b : List Int) : orI a (andI a b) = andI a a := up_ext (orI_up _ _) (andI_up _ _) fun x => by
  rw [orI_mem, andI_mem, andI_mem]
  by_cases h1 : x ∈ a <;> simp [h1]
/-- DE MORGAN -/
theorem morgan1 (n : Nat) (a b : List Int) : noneI n (setI (orI a b)) = andI (noneI n (setI a)) (noneI n (setI b)) := up_ext (noneI_up _ _) (andI_up _ _) fun x => by
  rw [noneI_mem, andI_mem, noneI_mem, noneI_mem, setI_mem, orI_mem, setI_mem, setI_mem]
  by_cases h1 : x ∈ a <;> by_cases h2 : x ∈ b <;> simp [h1, h2]
theorem morgan2 (n : Nat) (a : List Int) : noneI n (setI (noneI n (setI a))) = andI (noneI n (setI [])) a := up_ext (noneI_up _ _) (andI_up _ _) fun x => by
  rw [noneI_mem, andI_mem, noneI_mem, setI_mem, noneI_mem, setI_mem, setI_mem]
  by_cases h1 : x ∈ a <;> by_cases h2 : (0 ≤ x ∧ x < n) <;> simp [h1, h2]
end Go.Proofs.Ytmfndpkhcejffaa
