/- What slices.Clone, Sort and Compact make of a row of strings. Conditions: rows lie in their cells, or are the call's own. -/
import Derived.Test.YtnppgocedokioaaShS
import Derived.Test.YtnppgocedokioaaOpenS
import Derived.Sort.OwnSorted
namespace Go.Proofs.Ytnppgocedokioaa
open Go.RowKit Go.Sort

theorem elStr : Elem Try.prog 22 9 1 16 := Elem.mk' (z := .string ⟨#[]⟩) Try.underlying22 (by kernel_rfl) rfl (by decide)
theorem strCs_len (l : List ByteArray) : (strCs l).length = l.length := by rw [strCs, flat_len (C := 1) (fun _ => rfl), Nat.mul_one]
theorem strCs_one (l : List ByteArray) : ∀ u ∈ strCs l, u.oneCell' = true := by
  intro u hu
  simp only [strCs, List.mem_flatMap] at hu
  obtain ⟨b, _, hb⟩ := hu
  simp [strC] at hb
  subst hb; rfl
/-- the bytes of each -/
def strL (l : List ByteArray) : List (List UInt8) := l.map fun b => b.data.toList
theorem strCs_enc (l : List ByteArray) : strCs l = (strL l).map encStr := by
  unfold strCs strL
  rw [List.map_map]
  induction l with
  | nil => rfl
  | cons x l ih => rw [List.flatMap_cons, List.map_cons, ih]; rfl
def sortS (l : List ByteArray) : List (List UInt8) := (strL l).mergeSort fun x y => decide (x ≤ y)
theorem sortS_len (l : List ByteArray) : (sortS l).length = l.length := by unfold sortS strL; rw [List.length_mergeSort, List.length_map]
theorem mem_compactUpTo (d : Array (List UInt8)) (m : Nat) : ∀ j, j < m → d[j]! ∈ Lib.compactUpTo d m
  | 0, h => List.mem_map.2 ⟨0, List.mem_filter.2 ⟨List.mem_range.2 h, by unfold Lib.keeps; simp⟩, rfl⟩
  | j + 1, h => by
    by_cases hk : Lib.keeps d (j + 1) = true
    · exact List.mem_map.2 ⟨j + 1, List.mem_filter.2 ⟨List.mem_range.2 h, hk⟩, rfl⟩
    · have e : d[j + 1]! = d[j]! := by
        unfold Lib.keeps at hk
        rw [decide_eq_true_iff] at hk
        have h2 : ¬ (d[j + 1]! ≠ d[j + 1 - 1]!) := fun g => hk (.inr g)
        exact Decidable.not_not.1 h2
      rw [e]
      exact mem_compactUpTo d m j (by omega)
theorem mem_compact {zs : List (List UInt8)} {x : List UInt8} (h : x ∈ zs) : x ∈ Lib.compact zs := by
  obtain ⟨j, hj, rfl⟩ := List.getElem_of_mem h
  have := mem_compactUpTo zs.toArray zs.length j hj
  rw [show zs.toArray[j]! = zs[j] by simp [hj]] at this
  exact this
/-- the unlike ones -/
def unlikeS (l : List ByteArray) : List ByteArray := (Lib.compact (sortS l)).map fun b => ⟨b.toArray⟩
theorem unlikeS_len (l : List ByteArray) : (unlikeS l).length = (Lib.compact (sortS l)).length := List.length_map _
theorem unlikeS_mem {l : List ByteArray} {x : ByteArray} (h : x ∈ l) : x ∈ unlikeS l := by
  have h1 : x.data.toList ∈ sortS l := (List.mergeSort_perm _ _).mem_iff.2 (List.mem_map.2 ⟨x, h, rfl⟩)
  exact List.mem_map.2 ⟨_, mem_compact h1, rfl⟩
set_option maxRecDepth 1000000 in
set_option maxHeartbeats 400000 in
theorem cloneS_any (A : Option Addr) (n c : Nat) (xs : List Value) (hl : xs.length = n * 1) (h1 : ∀ u ∈ xs, u.oneCell' = true) (hA : A = none → n = 0 ∧ c = 0) (hmax : n * 16 ≤ 140737488355328) (w : World) (h : Has w w.heap.size A xs) :
    Calls Try.prog 15 #[.slice A n c] w (RV fun v w' => ∃ A' c', v = .slice A' n c' ∧ w'.ownsRow w.heap.size 9 1 (.slice A' n c') n xs ∧ Below w.heap.size w w') := by
  have hq := fun (w : World) (a : Option Addr) (n c n' c' : Nat) => Lib.run_eql_slice_nil (P := Try.prog) w 22 9 a n c n' c' Try.underlying22
  cases A with
  | none =>
    obtain ⟨rfl, rfl⟩ := hA rfl
    go_enter Try.func15, Try.ntmps15
    go_wp2
    go_ret
    exact RV.mk ⟨none, 0, rfl, ⟨hl, .inl ⟨rfl, rfl⟩⟩, Below.refl _ _⟩
  | some ad =>
    go_enter Try.func15, Try.ntmps15
    go_wp2_with (at_builtin; refine wpList_spread rfl _ _ _ rfl elStr rfl (World.ownsRow_made (base := w.heap.size) w #[] 0 (Nat.le_refl _) (Nat.zero_le _) rfl) rfl ((h.keep fun p hp => World.cell?_alloc_lt w _ p hp)) ?_ ?c1 ?c2 ?c3 ?c4 ?c5; intro A' c' w1 hown hgrow hbel)
    case c1 => exact hl
    case c2 => exact h1
    case c3 => omega
    case c4 => unfold maxLen; omega
    case c5 => simp
    go_ret
    rw [Nat.zero_add, List.nil_append] at hown
    exact RV.mk ⟨A', c', rfl, hown, ((Below.refl _ _).alloc (Nat.le_refl _) _).trans hbel⟩
theorem sortS_any {base n c : Nat} {A : Option Addr} (l : List ByteArray) (hl : l.length = n) (hn : n ≤ 17592186044416) (w : World) (hown : w.ownsRow base 9 1 (.slice A n c) n (strCs l)) :
    Calls Try.prog 16 #[.slice A n c] w (R1 (.tuple #[]) (fun w' => w'.ownsRow base 9 1 (.slice A n c) n ((sortS l).map encStr) ∧ w.grownBy w' (Value.slice A n c).ownBlock)) := by
  rcases hown.2 with ⟨hnil, h0⟩ | ⟨g, cap, cur, hv, hbase, hb, h1, h2, h3, h4⟩
  · injection hnil with e1 e2 e3
    have el : l = [] := List.eq_nil_of_length_eq_zero (by omega)
    subst h0 e1 e3 el
    exact (Try.slices_Sort_string_none none 0 w).mono (fun e w' h => by
      obtain ⟨rfl, rfl⟩ := h
      exact ⟨rfl, by rw [show sortS [] = [] by unfold sortS strL; simp]; exact hown, World.grownBy.refl _ _⟩)
  · injection hv with e1 e2 e3
    subst e1 e3
    have hsl : (strL l).length = n := by unfold strL; rw [List.length_map]; exact hl
    rw [Nat.mul_one, strCs_enc] at h4
    rw [← hsl] at h4 h1 ⊢
    exact (Try.slices_Sort_string g 0 c (strL l) w (holds_of_block hb h4) (Array.getElem?_eq_some_iff.1 hb).1 (by omega)).mono (fun e w' h => by
      obtain ⟨rfl, nn, os, rfl⟩ := h
      exact ⟨rfl, ownsRow_sorted (ts := sortS l) (by rw [sortS_len, hl, hsl]) hbase hb h1 h2 h3, grownBy_sorted _⟩)
theorem compactS_any {base n c : Nat} {A : Option Addr} (ss : List (List UInt8)) (hl : ss.length = n) (hn : n ≤ 17592186044416) (w : World) (hown : w.ownsRow base 9 1 (.slice A n c) n (ss.map encStr)) :
    Calls Try.prog 17 #[.slice A n c] w (RV fun v w' => v = .slice A (Lib.compact ss).length c ∧ w.grownBy w' (Value.slice A n c).ownBlock) := by
  rcases hown.2 with ⟨hnil, h0⟩ | ⟨g, cap, cur, hv, hbase, hb, h1, h2, h3, h4⟩
  · injection hnil with e1 e2 e3
    have el : ss = [] := List.eq_nil_of_length_eq_zero (by omega)
    subst h0 e1 e3 el
    exact (Try.slices_Compact_string_empty none 0 w).mono (fun e w' h => by
      obtain ⟨rfl, rfl⟩ := h
      exact ⟨_, rfl, rfl, World.grownBy.refl _ _⟩)
  · injection hv with e1 e2 e3
    subst e1 e3
    rw [Nat.mul_one] at h4
    rw [← hl] at h4 h1 ⊢
    exact (Try.slices_Compact_string g 0 c ss w (holds_of_block hb h4) (by omega) h1).mono (fun e w' h => by
      obtain ⟨rfl, q, rfl⟩ := h
      refine ⟨_, rfl, rfl, ?_⟩
      have := grownBy_sorted (w := w) (g := g) (n := q) (os := #[]) (Lib.compact ss ++ List.replicate (ss.length - (Lib.compact ss).length) []).toArray
      have e : ∀ W : World, grow W #[] = W := fun W => by unfold grow; simp
      rw [e] at this
      exact this)
end Go.Proofs.Ytnppgocedokioaa
