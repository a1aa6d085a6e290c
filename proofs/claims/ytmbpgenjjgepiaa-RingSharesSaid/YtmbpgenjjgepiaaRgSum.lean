/- Plain law: all shares of a ring together are all numbers. No conditions. -/
import Derived.Test.YtmbpgenjjgepiaaRgShr
import Derived.Test.YtmbpgenjjgepiaaRgLv
namespace Go.Proofs.Ytmbpgenjjgepiaa
open Go.RowKit Go.Sort

def topN : Nat := 18446744073709551615
/-- how many of these are the greatest number; the others' sum -/
def allN (vs : List Nat) : Nat := (vs.filter fun v => decide (v = topN)).length
def restN (vs : List Nat) : Nat := (vs.filter fun v => decide (v ≠ topN)).sum
theorem all_rest (vs : List Nat) : allN vs * topN + restN vs = vs.sum := by
  induction vs with
  | nil => rfl
  | cons v vs ih =>
    unfold allN restN at ih ⊢
    by_cases h : v = topN
    · rw [List.filter_cons_of_pos (by simp [h]), List.filter_cons_of_neg (by simp [h]), List.length_cons, Nat.succ_mul, List.sum_cons, ← ih, h]; omega
    · rw [List.filter_cons_of_neg (by simp [h]), List.filter_cons_of_pos (by simp [h]), List.sum_cons, List.sum_cons, ← ih]; omega
theorem sum_zero {vs : List Nat} (h : ∀ v ∈ vs, v = 0) : vs.sum = 0 := by
  induction vs with
  | nil => rfl
  | cons v vs ih => rw [List.sum_cons, h v (List.mem_cons_self ..), ih (fun x hx => h x (List.mem_cons_of_mem _ hx))]
theorem mod_of {r q : Nat} (h : r = q) (hq : q < 18446744073709551616) : r % 18446744073709551616 = q := by rw [h]; exact Nat.mod_eq_of_lt hq
/-- a name is just one node's -/
theorem one_of {l : List Nod} (hp : (l.map (·.nm)).Pairwise nlt) {a : ByteArray} (ha : a ∈ l.map (·.nm)) (D : Nat) : (l.map fun x => if a = x.nm then D else 0).sum = D := by
  induction l with
  | nil => cases ha
  | cons x l ih =>
    rw [List.map_cons, List.pairwise_cons] at hp
    rw [List.map_cons, List.sum_cons]
    by_cases h : a = x.nm
    · rw [if_pos h]
      have hz : ∀ y ∈ l, (if a = y.nm then D else 0) = 0 := fun y hy => by
        rw [if_neg]
        intro e
        have := hp.1 y.nm (List.mem_map.2 ⟨y, hy, rfl⟩)
        rw [← h, ← e] at this
        exact nlt_irrefl _ this
      have : (l.map fun x => if a = x.nm then D else 0).sum = 0 := by
        apply sum_zero
        intro v hv
        obtain ⟨y, hy, rfl⟩ := List.mem_map.1 hv
        exact hz y hy
      omega
    · rw [if_neg h]
      rcases List.mem_cons.1 ha with ha | ha
      · exact absurd ha h
      · rw [ih hp.2 ha]; omega
/-- how far it is to a place from the one before -/
def difP (Q : List Plc) (i : Nat) : Nat := sub64 (at_ Q i).t (at_ Q ((i + Q.length - 1) % Q.length)).t
def sumP (Q : List Plc) (name : ByteArray) : Nat → Nat
  | 0 => 0
  | k + 1 => sumP Q name k + if (at_ Q k).nm = name then difP Q k else 0
def totP' (Q : List Plc) : Nat → Nat
  | 0 => 0
  | k + 1 => totP' Q k + difP Q k
theorem shN_sum (Q : List Plc) (name : ByteArray) (k : Nat) : shN Q name k = sumP Q name k % 18446744073709551616 := by
  induction k with
  | zero => rfl
  | succ k ih =>
    rw [sumP]
    unfold shN
    by_cases h : (at_ Q k).nm = name
    · rw [if_pos h, if_pos h, ih]
      show (sumP Q name k % 18446744073709551616 + difP Q k) % 18446744073709551616 = _
      omega
    · rw [if_neg h, if_neg h, ih, Nat.add_zero]
theorem sum_add {α : Type} (l : List α) (f g : α → Nat) : (l.map fun x => f x + g x).sum = (l.map f).sum + (l.map g).sum := by
  induction l with
  | nil => rfl
  | cons x l ih => simp only [List.map_cons, List.sum_cons, ih]; omega
theorem sum_all {l : List Nod} (hp : (l.map (·.nm)).Pairwise nlt) {Q : List Plc} (hQ : ∀ y ∈ Q, y.nm ∈ l.map (·.nm)) : ∀ k, k ≤ Q.length → (l.map fun x => sumP Q x.nm k).sum = totP' Q k := by
  intro k
  induction k with
  | zero =>
    intro _
    refine sum_zero (fun v hv => ?_)
    obtain ⟨y, _, rfl⟩ := List.mem_map.1 hv
    rfl
  | succ k ih =>
    intro hk
    simp only [sumP, totP']
    rw [sum_add, ih (by omega), one_of hp (hQ _ (at_mem (by omega)))]
/-- tokens rise -/
def RiseP (Q : List Plc) : Prop := ∀ i j, i < j → j < Q.length → (at_ Q i).t < (at_ Q j).t
theorem dif_pos {Q : List Plc} (hr : RiseP Q) (hb : ∀ y ∈ Q, y.t < 18446744073709551616) (h2 : 2 ≤ Q.length) {i : Nat} (hi : i < Q.length) : 0 < difP Q i ∧ difP Q i < 18446744073709551616 := by
  unfold difP sub64
  have h1 := hb _ (at_mem hi)
  rcases Nat.eq_zero_or_pos i with rfl | h
  · have e : (0 + Q.length - 1) % Q.length = Q.length - 1 := by rw [Nat.mod_eq_of_lt (by omega)]; omega
    rw [e]
    have h3 := hr 0 (Q.length - 1) (by omega) (by omega)
    have h4 := hb _ (at_mem (show Q.length - 1 < Q.length by omega))
    omega
  · have e : (i + Q.length - 1) % Q.length = i - 1 := by
      rw [show i + Q.length - 1 = (i - 1) + Q.length by omega, Nat.add_mod_right, Nat.mod_eq_of_lt (by omega)]
    rw [e]
    have h3 := hr (i - 1) i (by omega) hi
    omega
theorem tot_is {Q : List Plc} (hr : RiseP Q) (hb : ∀ y ∈ Q, y.t < 18446744073709551616) (h2 : 2 ≤ Q.length) : ∀ k, 1 ≤ k → k ≤ Q.length → totP' Q k + (at_ Q (Q.length - 1)).t = (at_ Q (k - 1)).t + 18446744073709551616 := by
  intro k
  induction k with
  | zero => intro h; omega
  | succ k ih =>
    intro _ hk
    have h1 := hb _ (at_mem (show k < Q.length by omega))
    have h4 := hb _ (at_mem (show Q.length - 1 < Q.length by omega))
    rw [totP', Nat.add_sub_cancel]
    unfold difP sub64
    rcases Nat.eq_zero_or_pos k with rfl | h
    · have e : (0 + Q.length - 1) % Q.length = Q.length - 1 := by rw [Nat.mod_eq_of_lt (by omega)]; omega
      rw [e]
      have h3 := hr 0 (Q.length - 1) (by omega) (by omega)
      show 0 + _ + _ = _
      omega
    · have e : (k + Q.length - 1) % Q.length = k - 1 := by
        rw [show k + Q.length - 1 = (k - 1) + Q.length by omega, Nat.add_mod_right, Nat.mod_eq_of_lt (by omega)]
      rw [e]
      have h3 := hr (k - 1) k (by omega) (by omega)
      have := ih h (by omega)
      omega
theorem tot_all {Q : List Plc} (hr : RiseP Q) (hb : ∀ y ∈ Q, y.t < 18446744073709551616) (h2 : 2 ≤ Q.length) : totP' Q Q.length = 18446744073709551616 := by
  have := tot_is hr hb h2 Q.length (by omega) (Nat.le_refl _)
  omega
theorem sumP_le (Q : List Plc) (name : ByteArray) (k : Nat) : sumP Q name k ≤ totP' Q k := by
  induction k with
  | zero => exact Nat.le_refl _
  | succ k ih => rw [sumP, totP']; split <;> omega
/-- a place of another node's is none of its -/
theorem sumP_lt {Q : List Plc} (hr : RiseP Q) (hb : ∀ y ∈ Q, y.t < 18446744073709551616) (h2 : 2 ≤ Q.length) {name : ByteArray} {i : Nat} (hn : (at_ Q i).nm ≠ name) : ∀ k, i < k → k ≤ Q.length → sumP Q name k < totP' Q k := by
  intro k
  induction k with
  | zero => intro h; omega
  | succ k ih =>
    intro h hk
    rw [sumP, totP']
    have hp := dif_pos hr hb h2 (show k < Q.length by omega)
    rcases Nat.lt_or_ge i k with g | g
    · have := ih g (by omega)
      split <;> omega
    · obtain rfl : i = k := by omega
      rw [if_neg hn]
      have := sumP_le Q name i
      omega
theorem owN_all {Q : List Plc} {name : ByteArray} : ∀ k, owN Q name k = k → ∀ i, i < k → (at_ Q i).nm = name := by
  intro k
  induction k with
  | zero => intro _ i h; omega
  | succ k ih =>
    intro h i hi
    unfold owN at h
    have hl := owN_le Q name k
    split at h
    · rename_i hk
      rcases Nat.lt_or_ge i k with g | g
      · exact ih (by omega) i g
      · rw [show i = k by omega]; exact hk
    · omega
theorem owN_same {Q : List Plc} {name : ByteArray} : ∀ k, (∀ i, i < k → (at_ Q i).nm = name) → owN Q name k = k := by
  intro k
  induction k with
  | zero => intro _; rfl
  | succ k ih => intro h; unfold owN; rw [if_pos (h k (by omega)), ih (fun i hi => h i (by omega))]
theorem owN_none {Q : List Plc} {name a : ByteArray} (hne : a ≠ name) : ∀ k, (∀ i, i < k → (at_ Q i).nm = a) → owN Q name k = 0 ∧ sumP Q name k = 0 := by
  intro k
  induction k with
  | zero => intro _; exact ⟨rfl, rfl⟩
  | succ k ih =>
    intro h
    have h1 := h k (by omega)
    have h2 := ih (fun i hi => h i (by omega))
    unfold owN sumP
    rw [if_neg (by rw [h1]; exact hne), if_neg (by rw [h1]; exact hne), h2.2]
    exact ⟨h2.1, rfl⟩

/-- what RingShares asks -/
def SharesOk (T S A : Nat) : Prop := (T = 0 ∧ S = 0 ∧ A = 0) ∨ (0 < T ∧ S = 0 ∧ A ≤ 1) ∨ (0 < T ∧ A = 1 ∧ S = 1)
theorem shares_of {l : List Nod} (hp : (l.map (·.nm)).Pairwise nlt) {Q : List Plc} (hQ : ∀ y ∈ Q, y.nm ∈ l.map (·.nm)) (hr : RiseP Q) (hb : ∀ y ∈ Q, y.t < 18446744073709551616) {T : Nat} (hT : T = 0 ↔ Q.length = 0) :
    SharesOk T (restN (l.map fun x => shareN Q x.nm) % 18446744073709551616) (allN (l.map fun x => shareN Q x.nm)) := by
  have har := all_rest (l.map fun x => shareN Q x.nm)
  have hM : topN = 18446744073709551615 := rfl
  rcases Nat.eq_zero_or_pos Q.length with h0 | h0
  · have hz : (l.map fun x => shareN Q x.nm).sum = 0 := by
      apply sum_zero
      intro v hv
      obtain ⟨y, _, rfl⟩ := List.mem_map.1 hv
      unfold shareN
      rw [h0, if_neg (by rintro ⟨h, _⟩; exact absurd h (by simp [owN]))]
      rfl
    rw [hz, hM] at har
    have a0 : allN (l.map fun x => shareN Q x.nm) = 0 := by
      rcases Nat.eq_zero_or_pos (allN (l.map fun x => shareN Q x.nm)) with g | g
      · exact g
      · omega
    exact .inl ⟨hT.2 h0, mod_of (by omega) (by decide), a0⟩
  · have hT1 : 0 < T := Nat.pos_of_ne_zero (fun g => by have := hT.1 g; omega)
    by_cases hs : ∀ i, i < Q.length → (at_ Q i).nm = (at_ Q 0).nm
    · have hz : (l.map fun x => shareN Q x.nm) = l.map fun x => if (at_ Q 0).nm = x.nm then topN else 0 := by
        apply List.map_congr_left
        intro x _
        unfold shareN
        by_cases e : (at_ Q 0).nm = x.nm
        · have := owN_same (name := x.nm) Q.length (fun i hi => (hs i hi).trans e)
          rw [if_pos e, this, if_pos ⟨h0, rfl⟩, hM]
        · obtain ⟨h1, h2⟩ := owN_none (name := x.nm) e Q.length hs
          rw [if_neg e, h1, if_neg (by rintro ⟨h, _⟩; omega), shN_sum, h2]
      have hmem := hQ _ (at_mem h0)
      have hsum := one_of hp hmem topN
      rw [← hz] at hsum
      rw [hsum, hM] at har
      have hin : topN ∈ l.map fun x => shareN Q x.nm := by
        rw [hz]
        obtain ⟨x, hx, h1⟩ := List.mem_map.1 hmem
        exact List.mem_map.2 ⟨x, hx, by rw [if_pos h1.symm]⟩
      have hA : 0 < allN (l.map fun x => shareN Q x.nm) := List.length_pos_of_mem (List.mem_filter.2 ⟨hin, by simp⟩)
      have a1 : allN (l.map fun x => shareN Q x.nm) = 1 := by omega
      rw [a1] at har
      exact .inr (.inl ⟨hT1, mod_of (q := 0) (by omega) (by decide), by omega⟩)
    · have h2 : 2 ≤ Q.length := by
        rcases Nat.lt_or_ge Q.length 2 with g | g
        · exact absurd (fun i hi => by rw [show i = 0 by omega]) hs
        · exact g
      have hz : (l.map fun x => shareN Q x.nm) = l.map fun x => sumP Q x.nm Q.length := by
        apply List.map_congr_left
        intro x _
        have hno : owN Q x.nm Q.length ≠ Q.length := fun g => hs (fun i hi => by rw [owN_all _ g i hi, owN_all _ g 0 h0])
        unfold shareN
        rw [if_neg (fun g => hno g.2), shN_sum]
        have hex : ∃ i, i < Q.length ∧ (at_ Q i).nm ≠ x.nm := by
          rcases Classical.em (∃ i, i < Q.length ∧ (at_ Q i).nm ≠ x.nm) with g | g
          · exact g
          · exact absurd (owN_same (name := x.nm) Q.length (fun i hi => Classical.byContradiction fun g2 => g ⟨i, hi, g2⟩)) hno
        obtain ⟨i, hi, hne⟩ := hex
        have h3 := sumP_lt hr hb h2 hne Q.length hi (Nat.le_refl _)
        rw [tot_all hr hb h2] at h3
        exact Nat.mod_eq_of_lt h3
      have hsum : (l.map fun x => shareN Q x.nm).sum = 18446744073709551616 := by
        rw [hz, sum_all hp hQ _ (Nat.le_refl _), tot_all hr hb h2]
      rw [hsum, hM] at har
      rcases Nat.eq_zero_or_pos (allN (l.map fun x => shareN Q x.nm)) with g | g
      · rw [g] at har
        refine .inr (.inl ⟨hT1, ?_, by omega⟩)
        rw [show restN (l.map fun x => shareN Q x.nm) = 18446744073709551616 by omega]
      · have a1 : allN (l.map fun x => shareN Q x.nm) = 1 := by omega
        rw [a1] at har
        exact .inr (.inr ⟨hT1, a1, mod_of (by omega) (by decide)⟩)

/-! ### the ring's own places -/
theorem ddP_mem {P : List Plc} : ∀ k, k ≤ P.length → ∀ y ∈ ddP P k, y ∈ P := by
  intro k
  induction k with
  | zero => intro _ y hy; cases hy
  | succ k ih =>
    intro hk y hy
    unfold ddP at hy
    split at hy
    · rcases List.mem_append.1 hy with hy | hy
      · exact ih (by omega) y hy
      · rw [List.mem_singleton.1 hy]; exact at_mem (by omega)
    · exact ih (by omega) y hy
theorem ddP_rise {P : List Plc} (hu : UpP P) : ∀ k, k ≤ P.length → (ddP P k).Pairwise (fun x y => x.t < y.t) ∧ (∀ y ∈ ddP P k, y.t ≤ (at_ P (k - 1)).t) ∧ (0 < k → 0 < (ddP P k).length) := by
  intro k
  induction k with
  | zero => intro _; exact ⟨List.Pairwise.nil, (fun y hy => by cases hy), (fun h => by omega)⟩
  | succ k ih =>
    intro hk
    obtain ⟨h1, h2, h3⟩ := ih (by omega)
    rw [Nat.add_sub_cancel]
    unfold ddP
    by_cases h : k = 0 ∨ (at_ P k).t ≠ (at_ P (k - 1)).t
    · rw [if_pos h]
      have hlt : ∀ y ∈ ddP P k, y.t < (at_ P k).t := fun y hy => by
        rcases Nat.eq_zero_or_pos k with rfl | g
        · cases hy
        · have g1 := h2 y hy
          have g2 := hu (k - 1) k (by omega) (by omega)
          rcases h with h | h
          · omega
          · omega
      refine ⟨List.pairwise_append.2 ⟨h1, List.pairwise_singleton _ _, fun a ha b hb => by rw [List.mem_singleton.1 hb]; exact hlt a ha⟩, fun y hy => ?_, fun _ => by simp⟩
      rcases List.mem_append.1 hy with hy | hy
      · exact Nat.le_of_lt (hlt y hy)
      · rw [List.mem_singleton.1 hy]; exact Nat.le_refl _
    · rw [if_neg h]
      simp only [not_or, Decidable.not_not] at h
      exact ⟨h1, fun y hy => by rw [h.2]; exact h2 y hy, fun _ => h3 (by omega)⟩
/-- how many tokens there are -/
def tokN (l : List Nod) : Nat := (l.map fun x => x.tk.length).sum
theorem tokN_len (l : List Nod) : (plAll l).length = tokN l := by
  induction l with
  | nil => rfl
  | cons x l ih =>
    have e : plAll (x :: l) = ndPl x ++ plAll l := by simp [plAll]
    rw [e, List.length_append, ih]
    simp [tokN, ndPl]
theorem shares_ring {l : List Nod} (hok : RgOk l) (hlt : ∀ x ∈ l, ∀ t ∈ x.tk, t < 18446744073709551616) :
    SharesOk (tokN l) (restN (l.map fun x => shareN (ddAll l) x.nm) % 18446744073709551616) (allN (l.map fun x => shareN (ddAll l) x.nm)) := by
  have hlen : (plcs (plAll l)).length = (plAll l).length := plcs_len _
  obtain ⟨h1, _, h3⟩ := ddP_rise (plcs_up (plAll l)) (plAll l).length (by rw [hlen]; exact Nat.le_refl _)
  refine shares_of hok.2.2 (Q := ddAll l) (fun y hy => ?_) ?_ (tk_lt hlt) ?_
  · have hy := ddP_mem _ (by rw [hlen]; exact Nat.le_refl _) y hy
    have hy := (List.mergeSort_perm _ _).mem_iff.1 hy
    unfold plAll at hy
    obtain ⟨x, hx, h4⟩ := List.mem_flatMap.1 hy
    unfold ndPl at h4
    obtain ⟨t, _, rfl⟩ := List.mem_map.1 h4
    exact List.mem_map.2 ⟨x, hx, rfl⟩
  · intro i j hij hj
    have := List.pairwise_iff_getElem.1 h1 i j (by unfold ddAll at hj; omega) hj hij
    rw [at_eq hj, at_eq (show i < (ddAll l).length by omega)]
    exact this
  · rw [← tokN_len]
    constructor
    · intro h
      unfold ddAll
      rw [h]; rfl
    · intro h
      rcases Nat.eq_zero_or_pos (plAll l).length with g | g
      · exact g
      · have := h3 g
        unfold ddAll at h
        omega
end Go.Proofs.Ytmbpgenjjgepiaa
