/- A row of places that the call has built, sorted: plain laws. No conditions. -/
import Derived.Test.YtmbpgenjjgepiaaRgPlc
import Derived.Shelf.SlSortCmp.InsertionK
import Derived.Sort.OwnSorted
namespace Go.Proofs.Ytmbpgenjjgepiaa
open Go.RowKit Go.Sort

theorem flatK_list (M : List Plc) : (flatK encP 2 M.toArray).toList = plcCs M := by
  apply List.ext_getElem?
  intro t
  by_cases h : t < M.length * 2
  · have hk : t / 2 < M.length := by omega
    have h1 := flat_at (f := encP) (C := 2) (fun _ => rfl) hk (r := t % 2) (Nat.mod_lt _ (by decide))
    have h2 : t / 2 * 2 + t % 2 = t := by omega
    rw [h2] at h1
    have h3 := get_flatK encP 2 M.toArray t (by simpa using h)
    have hs : t < (flatK encP 2 M.toArray).toList.length := by simpa using h
    rw [List.getElem?_eq_getElem hs, Array.getElem_toList, ← getElem!_pos (flatK encP 2 M.toArray) t (by simpa using h), h3]
    unfold plcCs
    rw [h1]
    have h4 : M.toArray[t / 2]! = at_ M (t / 2) := by rw [at_eq hk]; simp [hk]
    rw [h4]
    rcases (show t % 2 = 0 ∨ t % 2 = 1 by omega) with h5 | h5 <;> rw [h5] <;> rfl
  · rw [List.getElem?_eq_none (by simp; omega), List.getElem?_eq_none (by rw [plcCs_len]; omega)]

theorem holds_flat {w : World} {g : Nat} {cur F : Array Value} {e : TypeId} (hb : w.heap[g]? = some (.cells cur e (0, 0))) (ht : cur.toList.take F.size = F.toList) : Holds id w g 0 F := by
  intro j hj
  refine ⟨?_, by simp [World.frozen?, hb]⟩
  have h1 : (cur.toList.take F.size)[j]? = F.toList[j]? := by rw [ht]
  rw [List.getElem?_take_of_lt hj] at h1
  simp only [World.cell?, hb, Nat.zero_add]
  simp only [Option.isSome_none, Bool.false_eq_true, if_false]
  rw [← Array.getElem?_toList, h1]
  simp [hj]
theorem heap_flat {w : World} {g n : Nat} {os : Array Obj} {cur : Array Value} {e : TypeId} {fr : Nat × Nat} (F : Array Value) (hb : w.heap[g]? = some (.cells cur e fr)) :
    (grow (putRow id (Sort.ahead w n) g 0 F) os).heap[g]? = some (.cells (putCells id 0 F cur) e fr) := by
  have hg : g < w.heap.size := (Array.getElem?_eq_some_iff.1 hb).1
  rw [heap_grow_old _ _ (by simpa using hg)]
  simp [putRow, mapBlock, Sort.ahead, Array.getElem?_modify, hb, onCells]
theorem grownBy_flat {w : World} {g n : Nat} {os : Array Obj} (F : Array Value) : w.grownBy (grow (putRow id (Sort.ahead w n) g 0 F) os) (some g) := by
  refine ⟨rfl, rfl, rfl, by simp, fun k hk hne => ?_⟩
  rw [heap_grow_old _ _ (by simpa using hk)]
  have : g ≠ k := fun e => hne (by rw [e])
  simp [putRow, mapBlock, Sort.ahead, Array.getElem?_modify, this]
theorem take_flat (cur F : Array Value) (h : F.size ≤ cur.size) : (putCells id 0 F cur).toList.take F.size = F.toList := by
  apply List.ext_getElem?
  intro j
  by_cases hj : j < F.size
  · rw [List.getElem?_take_of_lt hj, Array.getElem?_toList]
    simp [putCells, hj, show j < cur.size by omega]
  · rw [List.getElem?_take_eq_none (by omega), List.getElem?_eq_none (by simp; omega)]

theorem plcs_len (M : List Plc) : (plcs M).length = M.length := List.length_mergeSort M

theorem sortP_own {w : World} {base g cap n q : Nat} {e : TypeId} {os : Array Obj} {cur : Array Value} {N : List Plc} (hN : N.length = n) (hbase : base ≤ g) (hb : w.heap[g]? = some (.cells cur e (0, 0)))
    (h1 : n ≤ cap) (h2 : cap ≤ maxLen) (h3 : cur.size = cap * 2) :
    (sortWorldK encP 2 w g 0 q N.toArray os).ownsRow base e 2 (.slice (some ⟨g, 0, none⟩) n cap) n (plcCs N) := by
  refine ⟨by rw [plcCs_len, hN], .inr ⟨g, cap, _, rfl, hbase, heap_flat _ hb, h1, h2, by simp [putCells, h3], ?_⟩⟩
  have hs : (flatK encP 2 N.toArray).size = n * 2 := by simp [hN]
  have h := take_flat cur (flatK encP 2 N.toArray) (by rw [hs, h3]; omega)
  rw [hs, flatK_list] at h
  exact h
theorem sortP_holds {w : World} {g n : Nat} {e : TypeId} {cur : Array Value} {M : List Plc} (hM : M.length = n) (hb : w.heap[g]? = some (.cells cur e (0, 0))) (ht : cur.toList.take (n * 2) = plcCs M) : HoldsK encP 2 w g 0 M.toArray := by
  refine holds_flat hb ?_
  rw [flatK_list, size_flatK, List.size_toArray, hM]
  exact ht
theorem sortP_below {w : World} {g q base : Nat} {os : Array Obj} {N : List Plc} (h : base ≤ g) (hb : base ≤ w.heap.size) : Below base w (sortWorldK encP 2 w g 0 q N.toArray os) :=
  (Below.refl _ _).grown (grownBy_flat _) hb (fun k hk => by injection hk with hk; omega)
end Go.Proofs.Ytmbpgenjjgepiaa
