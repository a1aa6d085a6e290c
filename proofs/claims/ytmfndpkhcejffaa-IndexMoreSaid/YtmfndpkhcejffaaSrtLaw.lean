/- Numbers sorted and compacted: plain laws. No program in sight. -/
import Derived.Test.YtmfndpkhcejffaaHandLaw
import Derived.Lib.SlicesCompact
namespace Go.Proofs.Ytmfndpkhcejffaa
open Go.RowKit

def sortI (l : List Int) : List Int := l.mergeSort fun x y => decide (x ≤ y)
theorem sortI_len (l : List Int) : (sortI l).length = l.length := List.length_mergeSort l
theorem sortI_perm (l : List Int) : (sortI l).Perm l := List.mergeSort_perm l _
theorem sortI_le (l : List Int) : (sortI l).Pairwise (· ≤ ·) := (List.pairwise_mergeSort (le := fun x y : Int => decide (x ≤ y)) (fun x y z => by simp; omega) (fun x y => by simp; omega) l).imp (fun h => of_decide_eq_true h)
theorem sort_eq {l m : List Int} (hp : l.Perm m) (hm : m.Pairwise (· ≤ ·)) : sortI l = m :=
  List.Perm.eq_of_pairwise (fun a b _ _ h1 h2 => Int.le_antisymm h1 h2) (sortI_le l) hm ((sortI_perm l).trans hp)
theorem compact_up {l : List Int} (h : l.Pairwise (· < ·)) : Lib.compact l = l := by
  refine Lib.compact_all l (fun j hj => ?_)
  unfold Lib.keeps
  rw [decide_eq_true_iff]
  rcases Nat.eq_zero_or_pos j with h0 | h0
  · exact .inl h0
  · right
    have := List.pairwise_iff_getElem.1 h (j - 1) j (by omega) hj (by omega)
    rw [show l.toArray[j]! = l[j] by simp [hj], show l.toArray[j - 1]! = l[j - 1] by simp [show j - 1 < l.length by omega]]
    omega
theorem compact_le {l : List Int} : (Lib.compact l).length ≤ l.length := by
  unfold Lib.compact Lib.compactUpTo
  rw [List.length_map]
  have := List.length_filter_le (Lib.keeps l.toArray) (List.range l.length)
  rw [List.length_range] at this
  exact this
theorem mem_compactUpToI (d : Array Int) (m : Nat) : ∀ j, j < m → d[j]! ∈ Lib.compactUpTo d m
  | 0, h => List.mem_map.2 ⟨0, List.mem_filter.2 ⟨List.mem_range.2 h, by unfold Lib.keeps; simp⟩, rfl⟩
  | j + 1, h => by
    by_cases hk : Lib.keeps d (j + 1) = true
    · exact List.mem_map.2 ⟨j + 1, List.mem_filter.2 ⟨List.mem_range.2 h, hk⟩, rfl⟩
    · have e : d[j + 1]! = d[j]! := by
        unfold Lib.keeps at hk
        rw [decide_eq_true_iff] at hk
        have h2 : ¬ (d[j + 1]! ≠ d[j + 1 - 1]!) := fun g => hk (.inr g)
        exact Decidable.not_not.1 h2
      rw [e]
      exact mem_compactUpToI d m j (by omega)
theorem mem_compactI {zs : List Int} {x : Int} : x ∈ Lib.compact zs ↔ x ∈ zs := by
  constructor
  · intro h
    obtain ⟨j, hj, rfl⟩ := List.mem_map.1 h
    have hj := List.mem_range.1 (List.mem_filter.1 hj).1
    rw [show zs.toArray[j]! = zs[j] by simp [hj]]
    exact List.getElem_mem hj
  · intro h
    obtain ⟨j, hj, rfl⟩ := List.getElem_of_mem h
    have := mem_compactUpToI zs.toArray zs.length j hj
    rw [show zs.toArray[j]! = zs[j] by simp [hj]] at this
    exact this
theorem compact_rise {zs : List Int} (h : zs.Pairwise (· ≤ ·)) : UpI (Lib.compact zs) := by
  unfold UpI Lib.compact Lib.compactUpTo
  rw [List.pairwise_map, List.pairwise_filter]
  refine List.Pairwise.imp_of_mem ?_ List.pairwise_lt_range
  intro i j hi hj hij ki kj
  have hi := List.mem_range.1 hi
  have hj := List.mem_range.1 hj
  unfold Lib.keeps at kj
  rw [decide_eq_true_iff] at kj
  have hne := kj.resolve_left (by omega)
  have g : ∀ a b : Nat, a ≤ b → b < zs.length → zs.toArray[a]! ≤ zs.toArray[b]! := by
    intro a b hab hb
    rw [show zs.toArray[a]! = zs[a] by simp [show a < zs.length by omega], show zs.toArray[b]! = zs[b] by simp [hb]]
    rcases Nat.lt_or_ge a b with h1 | h1
    · exact List.pairwise_iff_getElem.1 h a b (by omega) hb h1
    · have : a = b := by omega
      subst this; exact Int.le_refl _
  have g1 := g i (j - 1) (by omega) (by omega)
  have g2 := g (j - 1) j (by omega) hj
  omega
end Go.Proofs.Ytmfndpkhcejffaa
