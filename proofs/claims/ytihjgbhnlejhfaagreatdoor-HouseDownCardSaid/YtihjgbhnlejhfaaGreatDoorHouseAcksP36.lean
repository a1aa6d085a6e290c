/- Texts of the proof of HouseAcks, joined (by merge.py). Conditions: each theorem's own hypotheses. -/
import Derived.Test.YtihjgbhnlejhfaaGreatDoorHouseAcksP3
import Derived.Test.YtihjgbhnlejhfaaGreatDoorHouseAcksP15
import Derived.Test.YtihjgbhnlejhfaaGreatDoorHouseAcksP23
import Derived.Sort.OwnSorted
namespace Go.Proofs.YtihjgbhnlejhfaaGreatDoor
open Go.RowKit Go.Sort

theorem elStr : Elem Tryz.prog 104 9 1 16 := Elem.mk' (z := .string ⟨#[]⟩) Tryz.underlying104 (by kernel_rfl) rfl (by decide)
theorem strCs_len (l : List ByteArray) : (strCs l).length = l.length := by rw [strCs, flat_len (C := 1) (fun _ => rfl), Nat.mul_one]
theorem strCs_one (l : List ByteArray) : ∀ u ∈ strCs l, u.oneCell' = true := by
  intro u hu
  simp only [strCs, List.mem_flatMap] at hu
  obtain ⟨b, _, hb⟩ := hu
  simp [strC] at hb
  subst hb; rfl
/-- the bytes of each -/
def strL (l : List ByteArray) : List (List UInt8) := l.map fun b => b.data.toList
theorem strCs_enc (l : List ByteArray) : strCs l = (strL l).map encStr := by
  unfold strCs strL
  rw [List.map_map]
  induction l with
  | nil => rfl
  | cons x l ih => rw [List.flatMap_cons, List.map_cons, ih]; rfl
def sortS (l : List ByteArray) : List (List UInt8) := (strL l).mergeSort fun x y => decide (x ≤ y)
theorem sortS_len (l : List ByteArray) : (sortS l).length = l.length := by unfold sortS strL; rw [List.length_mergeSort, List.length_map]
theorem sortS_any {base n c : Nat} {A : Option Addr} (l : List ByteArray) (hl : l.length = n) (hn : n ≤ 17592186044416) (w : World) (hown : w.ownsRow base 9 1 (.slice A n c) n (strCs l)) :
    Calls Tryz.prog 84 #[.slice A n c] w (R1 (.tuple #[]) (fun w' => w'.ownsRow base 9 1 (.slice A n c) n ((sortS l).map encStr) ∧ w.grownBy w' (Value.slice A n c).ownBlock)) := by
  rcases hown.2 with ⟨hnil, h0⟩ | ⟨g, cap, cur, hv, hbase, hb, h1, h2, h3, h4⟩
  · injection hnil with e1 e2 e3
    have el : l = [] := List.eq_nil_of_length_eq_zero (by omega)
    subst h0 e1 e3 el
    exact (Tryz.slices_Sort_string_none none 0 w).mono (fun e w' h => by
      obtain ⟨rfl, rfl⟩ := h
      exact ⟨rfl, by rw [show sortS [] = [] by unfold sortS strL; simp]; exact hown, World.grownBy.refl _ _⟩)
  · injection hv with e1 e2 e3
    subst e1 e3
    have hsl : (strL l).length = n := by unfold strL; rw [List.length_map]; exact hl
    rw [Nat.mul_one, strCs_enc] at h4
    rw [← hsl] at h4 h1 ⊢
    exact (Tryz.slices_Sort_string g 0 c (strL l) w (holds_of_block hb h4) (Array.getElem?_eq_some_iff.1 hb).1 (by omega)).mono (fun e w' h => by
      obtain ⟨rfl, nn, os, rfl⟩ := h
      exact ⟨rfl, ownsRow_sorted (ts := sortS l) (by rw [sortS_len, hl, hsl]) hbase hb h1 h2 h3, grownBy_sorted _⟩)
end Go.Proofs.YtihjgbhnlejhfaaGreatDoor
