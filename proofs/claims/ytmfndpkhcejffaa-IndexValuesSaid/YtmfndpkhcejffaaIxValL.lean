/- The values of a name in an index: plain. Conditions: none beyond each theorem's own hypotheses. -/
import Derived.Test.YtmfndpkhcejffaaIxVal
namespace Go.Proofs.Ytmfndpkhcejffaa
open Go.RowKit Go.Sort

theorem addD_keys (D : List (Lab × List Int)) (y : Lab) (i : Int) : (addD D y i).map (·.1) = if y ∈ D.map (·.1) then D.map (·.1) else D.map (·.1) ++ [y] := by
  induction D with
  | nil => simp [addD]
  | cons p D ih =>
    obtain ⟨k, l⟩ := p
    rw [addD]
    by_cases h : k = y
    · rw [if_pos h]
      subst h
      simp
    · rw [if_neg h, List.map_cons, ih]
      have hy : y ≠ k := fun e => h e.symm
      by_cases h2 : y ∈ D.map (·.1)
      · rw [if_pos h2, if_pos (by simp [h2])]; rfl
      · rw [if_neg h2, if_neg (by
          rw [List.map_cons, List.mem_cons]
          rintro (e | e)
          · exact hy e
          · exact h2 e)]
        rfl
theorem addD_nodup {D : List (Lab × List Int)} (h : (D.map (·.1)).Nodup) (y : Lab) (i : Int) : ((addD D y i).map (·.1)).Nodup := by
  rw [addD_keys]
  split
  · exact h
  · rename_i h2
    refine List.nodup_append.2 ⟨h, by simp, fun a ha b hb e => ?_⟩
    rw [List.mem_singleton] at hb
    exact h2 (by rw [← hb, ← e]; exact ha)
theorem addDs_nodup (s : List Lab) (i : Int) : ∀ {D : List (Lab × List Int)}, (D.map (·.1)).Nodup → ((addDs D s i).map (·.1)).Nodup := by
  unfold addDs
  induction s with
  | nil => intro D h; exact h
  | cons y s ih => intro D h; rw [List.foldl_cons]; exact ih (addD_nodup h y i)
theorem ixD_nodup : ∀ (L : List (List Lab)) (i : Int) {D : List (Lab × List Int)}, (D.map (·.1)).Nodup → ((ixD L i D).map (·.1)).Nodup
  | [], _, _, h => h
  | l :: L, i, _, h => by rw [ixD]; exact ixD_nodup L (i + 1) (addDs_nodup l i h)
theorem addDs_keys (s : List Lab) (i : Int) : ∀ {D : List (Lab × List Int)} {z : Lab}, z ∈ (addDs D s i).map (·.1) → z ∈ D.map (·.1) ∨ z ∈ s := by
  unfold addDs
  induction s with
  | nil => intro D z h; exact .inl h
  | cons y s ih =>
    intro D z h
    rw [List.foldl_cons] at h
    rcases ih h with h | h
    · rw [addD_keys] at h
      split at h
      · exact .inl h
      · rcases List.mem_append.1 h with h | h
        · exact .inl h
        · rw [List.mem_singleton] at h; exact .inr (by simp [h])
    · exact .inr (by simp [h])
theorem ixD_keys : ∀ (L : List (List Lab)) (i : Int) {D : List (Lab × List Int)} {z : Lab}, z ∈ (ixD L i D).map (·.1) → z ∈ D.map (·.1) ∨ ∃ l ∈ L, z ∈ l
  | [], _, _, _, h => .inl h
  | l :: L, i, D, z, h => by
    rw [ixD] at h
    rcases ixD_keys L (i + 1) h with h | ⟨l', h1, h2⟩
    · rcases addDs_keys l i h with h | h
      · exact .inl h
      · exact .inr ⟨l, by simp, h⟩
    · exact .inr ⟨l', by simp [h1], h2⟩
theorem ixD_len : ∀ (L : List (List Lab)) (i : Int) (D : List (Lab × List Int)), (∀ l ∈ L, chkL l = 0) → (ixD L i D).length ≤ D.length + 10 * L.length
  | [], _, _, _ => by simp [ixD]
  | l :: L, i, D, h => by
    rw [ixD]
    have h1 := ixD_len L (i + 1) (addDs D l i) (fun x hx => h x (by simp [hx]))
    have h2 := addDs_len l i D
    have h3 := (chkL_iff.1 (h l (by simp))).1
    rw [List.length_cons]
    omega
theorem val_of_mem {l : List Lab} {a v : ByteArray} (h : chkL l = 0) (hm : ⟨a, v⟩ ∈ l) : valL l a = v := by
  have hp : l.Pairwise (fun x y => nlt x.nm y.nm) := List.pairwise_map.1 (chkL_iff.1 h).2.2
  clear h
  induction l with
  | nil => cases hm
  | cons x l ih =>
    rw [List.pairwise_cons] at hp
    rw [valL]
    by_cases hx : x.nm = a
    · rw [if_pos hx]
      rcases List.mem_cons.1 hm with e | e
      · rw [← e]
      · have := hp.1 _ e
        rw [hx] at this
        exact absurd this (nlt_irrefl _)
    · rw [if_neg hx]
      rcases List.mem_cons.1 hm with e | e
      · rw [← e] at hx; exact absurd rfl hx
      · exact ih e hp.2
/-- each value of a name is found -/
theorem val_found {L : List (List Lab)} (hL : ∀ l ∈ L, chkL l = 0) {name v : ByteArray} (hk : ⟨name, v⟩ ∈ (ixD L 0 []).map (·.1)) :
    chkM [⟨1, name, v⟩] = 0 ∧ fndI L [⟨1, name, v⟩] ≠ [] ∧ v.size ≤ 40 := by
  rcases ixD_keys L 0 hk with h | ⟨l, hl, hm⟩
  · cases h
  · have h0 := hL l hl
    obtain ⟨_, k2, _⟩ := chkL_iff.1 h0
    obtain ⟨n1, n2⟩ := k2 _ hm
    refine ⟨?_, ?_, n2⟩
    · rw [chkM_iff]
      refine ⟨by simp, fun x hx => ?_⟩
      rw [List.mem_singleton.1 hx]
      unfold mtErr
      simp only [] at n1 n2
      rw [if_neg (by simp), if_neg (by rw [n1]; simp), if_neg (by simp only []; omega)]
    · obtain ⟨k, hk, rfl⟩ := List.mem_iff_getElem.1 hl
      intro e
      have : (k : Int) ∈ fndI L [⟨1, name, v⟩] := by
        rw [fndI_mem]
        refine ⟨⟨by omega, by omega⟩, fun y hy => ?_⟩
        rw [List.mem_singleton.1 hy, Int.toNat_natCast, at_eq hk]
        unfold fitL
        rw [if_pos rfl, decide_eq_true_iff]
        exact val_of_mem h0 hm
      rw [e] at this; cases this
/-- the sorted values, as strings -/
def srtV (name : ByteArray) (ys : List Lab) : List ByteArray := (sortS (valsOf name ys)).map fun l => ⟨l.toArray⟩
theorem srtV_cells (name : ByteArray) (ys : List Lab) : (sortS (valsOf name ys)).map encStr = strCs (srtV name ys) := by
  unfold srtV strCs
  generalize sortS (valsOf name ys) = X
  induction X with
  | nil => rfl
  | cons x X ih => rw [List.map_cons, List.map_cons, List.flatMap_cons, ih]; rfl
theorem srtV_len (name : ByteArray) (ys : List Lab) : (srtV name ys).length = (valsOf name ys).length := by unfold srtV; rw [List.length_map, sortS_len]
theorem srtV_mem {name : ByteArray} {ys : List Lab} {v : ByteArray} (h : v ∈ srtV name ys) : ⟨name, v⟩ ∈ ys := by
  unfold srtV at h
  obtain ⟨l, hl, rfl⟩ := List.mem_map.1 h
  have h1 := (List.mergeSort_perm (strL (valsOf name ys)) _).mem_iff.1 hl
  unfold strL at h1
  obtain ⟨b, hb, rfl⟩ := List.mem_map.1 h1
  unfold valsOf at hb
  obtain ⟨y, hy, rfl⟩ := List.mem_map.1 hb
  obtain ⟨h2, h3⟩ := List.mem_filter.1 hy
  rw [decide_eq_true_iff] at h3
  obtain ⟨a, v⟩ := y
  simp only [] at h3
  subst h3
  exact h2
theorem srtV_up {name : ByteArray} {ys : List Lab} (h : ys.Nodup) : (srtV name ys).Pairwise nlt := by
  have hnd : (strL (valsOf name ys)).Nodup := by
    unfold strL valsOf
    rw [List.map_map]
    refine List.pairwise_map.2 ((h.filter _).imp_of_mem fun {x y} hx hy hne e => hne ?_)
    have h1 := (List.mem_filter.1 hx).2
    have h2 := (List.mem_filter.1 hy).2
    rw [decide_eq_true_iff] at h1 h2
    have e3 : x.v.data.toList = y.v.data.toList := e
    have e2 : x.v = y.v := by
      cases hx : x.v with | mk a => cases hy : y.v with | mk b =>
        rw [hx, hy] at e3
        rw [show a = b from Array.toList_inj.1 e3]
    obtain ⟨a, b⟩ := x
    obtain ⟨a', b'⟩ := y
    simp only [] at h1 h2 e2
    rw [h1, h2, e2]
  have hs : (sortS (valsOf name ys)).Pairwise fun x y => decide (x ≤ y) = true := List.pairwise_mergeSort (fun a b c h1 h2 => by simp at h1 h2 ⊢; exact List.le_trans h1 h2) (fun a b => by simp; exact List.le_total a b) _
  have hn : (sortS (valsOf name ys)).Nodup := (List.mergeSort_perm _ _).nodup_iff.2 hnd
  unfold srtV
  rw [List.pairwise_map]
  refine (hs.and hn).imp fun {x y} h => ?_
  obtain ⟨h1, h2⟩ := h
  rw [decide_eq_true_iff] at h1
  unfold nlt
  rw [Lib.toList_data, Lib.toList_data]
  exact Decidable.not_not.1 fun h => h2 (List.le_antisymm h1 (List.not_lt.1 h))
end Go.Proofs.Ytmfndpkhcejffaa
