/- Claims along edges: plain laws. No program in sight. -/
import Derived.Test.YtokilodekbjpnaaSwap
import Derived.Test.YtokilodekbjpnaaUppLaw
namespace Go.Proofs.Ytokilodekbjpnaa
open Go.RowKit

structure Edg where
  f : Int
  t : Int
instance : Inhabited Edg := ⟨⟨0, 0⟩⟩
def edgeOk (n : Nat) (e : Edg) : Bool := decide (0 ≤ e.f ∧ e.f < (n : Int) ∧ 0 ≤ e.t ∧ e.t < (n : Int))
def swapAt (o : List (List Clm)) (e : Edg) : (List Clm × List Clm) × Int := swapN (at_ o e.f.toNat) (at_ o e.t.toNat)
def stepE (o : List (List Clm)) (e : Edg) : List (List Clm) :=
  if e.f = e.t then o.set e.f.toNat (swapAt o e).1.1 else (o.set e.f.toNat (swapAt o e).1.1).set e.t.toNat (swapAt o e).1.2
def runE : List (List Clm) → List Edg → List (List Clm) × Int
  | o, [] => (o, 0)
  | o, e :: l => if (swapAt o e).2 ≠ 0 then ([], (swapAt o e).2) else runE (stepE o e) l
def spreadN (o : List (List Clm)) (l : List Edg) : List (List Clm) × Int :=
  if 20 < o.length then ([], 1) else if l.all (edgeOk o.length) = true then runE o l else ([], 6)

theorem at_set {α : Type} [Inhabited α] (l : List α) (i j : Nat) (x : α) : at_ (l.set i x) j = if i = j ∧ j < l.length then x else at_ l j := by
  unfold at_
  rw [List.getD_eq_getElem?_getD, List.getElem?_set]
  by_cases h : i = j
  · subst h
    by_cases h2 : i < l.length
    · simp [h2]
    · simp [h2]
  · simp [h]
theorem stepE_len (o : List (List Clm)) (e : Edg) : (stepE o e).length = o.length := by unfold stepE; split <;> simp
theorem merge_self {P : List Clm} (h : UpC P) : mergeC P P = P :=
  lookC_ext _ _ (mergeC_up _ _ h h) h (fun t => by
    rw [lookC_merge _ _ h h]
    cases lookC P t <;> simp [joinC, newest_self])
theorem swap_zero {a b : List Clm} (h : (swapN a b).2 = 0) : (mergeN a b).2 = 0 ∧ swapN a b = ((mergeC a b, mergeC a b), 0) := by
  have hz : (mergeN a b).2 = 0 := by
    unfold swapN at h
    split at h
    · exact h
    · rename_i hq; exact Decidable.not_not.1 hq
  refine ⟨hz, ?_⟩
  unfold swapN
  rw [if_neg (fun g => g hz), told_eq hz, told_eq (mergeN_comm_zero.1 hz), mergeN_ok hz, mergeN_ok (mergeN_comm_zero.1 hz)]
  obtain ⟨ka, kb, _⟩ := mergeN_zero.1 hz
  rw [mergeC_comm (checkC_zero.1 kb).2.2 (checkC_zero.1 ka).2.2]
/-- what goes on from claims has all that they had -/
def Absorbs (a m : List Clm) : Prop := checkC a = 0 → checkC m = 0 ∧ mergeC a m = m
theorem upOf {a : List Clm} (h : checkC a = 0) : UpC a := (checkC_zero.1 h).2.2
theorem Absorbs.refl (a : List Clm) : Absorbs a a := fun h => ⟨h, merge_self (upOf h)⟩
theorem Absorbs.trans {a b c : List Clm} (h : Absorbs a b) (h' : Absorbs b c) : Absorbs a c := by
  intro ka
  obtain ⟨kb, e1⟩ := h ka
  obtain ⟨kc, e2⟩ := h' kb
  refine ⟨kc, ?_⟩
  rw [← e2, ← mergeC_assoc (upOf ka) (upOf kb) (upOf kc), e1]
theorem merge_left {a b : List Clm} (ua : UpC a) (ub : UpC b) : mergeC a (mergeC a b) = mergeC a b := by
  rw [← mergeC_assoc ua ua ub, merge_self ua]
theorem Absorbs.left {a b : List Clm} (h : (mergeN a b).2 = 0) : Absorbs a (mergeC a b) := by
  obtain ⟨ka, kb, kl⟩ := mergeN_zero.1 h
  exact fun _ => ⟨mergeC_ok ka kb kl, merge_left (upOf ka) (upOf kb)⟩
theorem Absorbs.right {a b : List Clm} (h : (mergeN a b).2 = 0) : Absorbs b (mergeC a b) := by
  obtain ⟨ka, kb, _⟩ := mergeN_zero.1 h
  rw [mergeC_comm (upOf ka) (upOf kb)]
  exact Absorbs.left (mergeN_comm_zero.1 h)
theorem step_at {o : List (List Clm)} {e : Edg} (h : (swapAt o e).2 = 0) (i : Nat) :
    at_ (stepE o e) i = if (e.f.toNat = i ∨ e.t.toNat = i) ∧ i < o.length then mergeC (at_ o e.f.toNat) (at_ o e.t.toNat) else at_ o i := by
  have hs := (swap_zero h).2
  have hs : swapAt o e = ((mergeC (at_ o e.f.toNat) (at_ o e.t.toNat), mergeC (at_ o e.f.toNat) (at_ o e.t.toNat)), 0) := hs
  unfold stepE
  rw [hs]
  split
  · rename_i he
    rw [at_set]
    have : e.t.toNat = e.f.toNat := by rw [he]
    rw [this]
    simp
  · rw [at_set, at_set, List.length_set]
    by_cases h1 : e.t.toNat = i
    · by_cases h2 : i < o.length
      · rw [if_pos ⟨h1, h2⟩, if_pos ⟨.inr h1, h2⟩]
      · rw [if_neg (fun g => h2 g.2), if_neg (fun g => h2 g.2), if_neg (fun g => h2 g.2)]
    · rw [if_neg (fun g => h1 g.1)]
      by_cases h2 : e.f.toNat = i ∧ i < o.length
      · rw [if_pos h2, if_pos ⟨.inl h2.1, h2.2⟩]
      · rw [if_neg h2, if_neg (fun g => by rcases g.1 with g1 | g1; exact h2 ⟨g1, g.2⟩; exact h1 g1)]
theorem at_or {α : Type} (o : List (List α)) (i : Nat) : at_ o i = [] ∨ at_ o i ∈ o := by
  rcases Nat.lt_or_ge i o.length with h | h
  · exact .inr (at_mem h)
  · left; unfold at_; rw [List.getD_eq_getElem?_getD, List.getElem?_eq_none h]; rfl
theorem step_from {o : List (List Clm)} {e : Edg} (h : (swapAt o e).2 = 0) : ∀ d ∈ stepE o e, ∀ c ∈ d, ∃ d' ∈ o, c ∈ d' := by
  intro d hd c hc
  obtain ⟨i, hi, rfl⟩ := List.getElem_of_mem hd
  have e1 : (stepE o e)[i] = at_ (stepE o e) i := by unfold at_; rw [List.getD_eq_getElem?_getD, List.getElem?_eq_getElem hi]; rfl
  rw [e1, step_at h] at hc
  have fin : ∀ j, c ∈ at_ o j → ∃ d' ∈ o, c ∈ d' := by
    intro j hj
    rcases at_or o j with g | g
    · rw [g] at hj; cases hj
    · exact ⟨_, g, hj⟩
  split at hc
  · rcases mergeC_mem _ _ c hc with g | g
    · exact fin _ g
    · exact fin _ g
  · exact fin _ hc
theorem runE_grows : ∀ (l : List Edg) (o : List (List Clm)), (runE o l).2 = 0 → (runE o l).1.length = o.length ∧ (∀ i, Absorbs (at_ o i) (at_ (runE o l).1 i)) ∧ ∀ d ∈ (runE o l).1, ∀ c ∈ d, ∃ d' ∈ o, c ∈ d' := by
  intro l
  induction l with
  | nil => intro o _; exact ⟨rfl, fun i => Absorbs.refl _, fun d hd c hc => ⟨d, hd, hc⟩⟩
  | cons e l ih =>
    intro o h
    unfold runE at h ⊢
    by_cases hs : (swapAt o e).2 = 0
    · rw [if_neg (fun g => g hs)] at h ⊢
      obtain ⟨i1, i2, i3⟩ := ih _ h
      refine ⟨i1.trans (stepE_len _ _), fun i => (?_ : Absorbs (at_ o i) (at_ (stepE o e) i)).trans (i2 i), ?_⟩
      · rw [step_at hs]
        split
        · rename_i hq
          rcases hq.1 with rfl | rfl
          · exact Absorbs.left (swap_zero hs).1
          · exact Absorbs.right (swap_zero hs).1
        · exact Absorbs.refl _
      · intro d hd c hc
        obtain ⟨d', hd', hc'⟩ := i3 d hd c hc
        exact step_from hs d' hd' c hc'
    · rw [if_pos hs] at h
      exact absurd h hs
theorem runE_bad : ∀ (l : List Edg) (o : List (List Clm)), (runE o l).2 ≠ 0 → (runE o l).1 = [] := by
  intro l
  induction l with
  | nil => intro o h; exact absurd rfl h
  | cons e l ih =>
    intro o h
    unfold runE at h ⊢
    by_cases hs : (swapAt o e).2 = 0
    · rw [if_neg (fun g => g hs)] at h ⊢
      exact ih _ h
    · rw [if_pos hs]
theorem spread_bad {o : List (List Clm)} {l : List Edg} (h : (spreadN o l).2 ≠ 0) : (spreadN o l).1 = [] := by
  unfold spreadN at h ⊢
  split
  · rfl
  · rename_i h1
    rw [if_neg h1] at h
    split
    · rename_i h2
      rw [if_pos h2] at h
      exact runE_bad _ _ h
    · rfl
theorem spread_zero {o : List (List Clm)} {l : List Edg} (h : (spreadN o l).2 = 0) : o.length ≤ 20 ∧ l.all (edgeOk o.length) = true ∧ spreadN o l = runE o l := by
  unfold spreadN at h ⊢
  split at h
  · cases h
  · rename_i h1
    split at h
    · rename_i h2
      rw [if_neg h1, if_pos h2]
      exact ⟨by omega, h2, rfl⟩
    · cases h
/-- none gets older -/
theorem grow_law {o : List (List Clm)} {l : List Edg} (h : (spreadN o l).2 = 0) {i : Nat} (hk : checkC (at_ o i) = 0) {x : Clm} (hx : x ∈ at_ o i) :
    ∃ y, lookC (at_ (spreadN o l).1 i) x.nm = some y ∧ newerN x y = false := by
  obtain ⟨_, _, e⟩ := spread_zero h
  rw [e] at h ⊢
  obtain ⟨km, em⟩ := (runE_grows l o h).2.1 i hk
  have := upper_law (upOf hk) (upOf km) (c := x) (.inl hx)
  rwa [em] at this
/-- none comes from nowhere -/
theorem from_law {o : List (List Clm)} {l : List Edg} (h : (spreadN o l).2 = 0) : (spreadN o l).1.length = o.length ∧ ∀ d ∈ (spreadN o l).1, ∀ c ∈ d, ∃ d' ∈ o, c ∈ d' := by
  obtain ⟨_, _, e⟩ := spread_zero h
  rw [e] at h ⊢
  exact ⟨(runE_grows l o h).1, (runE_grows l o h).2.2⟩

/-- a chain's edges -/
def chain (j : Nat) : List Edg := (List.range j).map fun i => ⟨(i : Nat), (i : Nat) + 1⟩
theorem chain_succ (j : Nat) : chain (j + 1) = chain j ++ [⟨(j : Nat), (j : Nat) + 1⟩] := by unfold chain; rw [List.range_succ, List.map_append]; rfl
theorem chain_len (j : Nat) : (chain j).length = j := by unfold chain; simp
theorem runE_app : ∀ (l m : List Edg) (o : List (List Clm)), runE o (l ++ m) = if (runE o l).2 ≠ 0 then runE o l else runE (runE o l).1 m := by
  intro l m
  induction l with
  | nil => intro o; rfl
  | cons e l ih =>
    intro o
    rw [List.cons_append]
    by_cases hs : (swapAt o e).2 = 0
    · have e1 : ∀ k, runE o (e :: k) = runE (stepE o e) k := fun k => by rw [runE, if_neg (fun g => g hs)]
      rw [e1, e1, ih]
    · have e1 : ∀ k, runE o (e :: k) = ([], (swapAt o e).2) := fun k => by rw [runE, if_pos hs]
      rw [e1, e1, if_pos hs]
def pre (all : List (List Clm)) (k : Nat) : List Clm := (all.take k).foldl mergeC []
theorem pre_succ {all : List (List Clm)} {k : Nat} (h : k < all.length) : pre all (k + 1) = mergeC (pre all k) (at_ all k) := by unfold pre; rw [take_at h, List.foldl_append]; rfl
theorem pre_one {all : List (List Clm)} (h : 0 < all.length) : pre all 1 = at_ all 0 := by
  rw [pre_succ h]
  exact nil_mergeC _
theorem swapAt_chain (o : List (List Clm)) (j : Nat) : swapAt o ⟨(j : Nat), (j : Nat) + 1⟩ = swapN (at_ o j) (at_ o (j + 1)) := by
  unfold swapAt
  rw [show ((j : Int)).toNat = j from rfl, show ((j : Int) + 1).toNat = j + 1 from by omega]
theorem step_chain {o : List (List Clm)} {j : Nat} (h : (swapAt o ⟨(j : Nat), (j : Nat) + 1⟩).2 = 0) (i : Nat) :
    at_ (stepE o ⟨(j : Nat), (j : Nat) + 1⟩) i = if (j = i ∨ j + 1 = i) ∧ i < o.length then mergeC (at_ o j) (at_ o (j + 1)) else at_ o i := by
  have := step_at h i
  simp only [] at this
  rwa [show ((j : Int)).toNat = j from rfl, show ((j : Int) + 1).toNat = j + 1 from by omega] at this
theorem there {all : List (List Clm)} : ∀ (j : Nat), j + 1 ≤ all.length → (runE all (chain j)).2 = 0 →
    ((runE all (chain j)).1.length = all.length ∧ (∀ i, i < j → at_ (runE all (chain j)).1 i = pre all (i + 2)) ∧ at_ (runE all (chain j)).1 j = pre all (j + 1) ∧ ∀ i, j < i → at_ (runE all (chain j)).1 i = at_ all i) ∧
    ∀ i, i < j → (mergeN (pre all (i + 1)) (at_ all (i + 1))).2 = 0 := by
  intro j
  induction j with
  | zero =>
    intro hj _
    refine ⟨⟨rfl, fun i hi => absurd hi (Nat.not_lt_zero _), ?_, fun i _ => rfl⟩, fun i hi => absurd hi (Nat.not_lt_zero _)⟩
    show at_ all 0 = pre all 1
    rw [pre_one (by omega)]
  | succ j ih =>
    intro hj h
    rw [chain_succ, runE_app] at h ⊢
    by_cases hz : (runE all (chain j)).2 = 0
    · rw [if_neg (fun g => g hz)] at h ⊢
      obtain ⟨⟨i1, i2, i3, i4⟩, i5⟩ := ih (by omega) hz
      generalize (runE all (chain j)).1 = o at h i1 i2 i3 i4 ⊢
      rw [runE] at h ⊢
      by_cases hs : (swapAt o ⟨(j : Nat), (j : Nat) + 1⟩).2 = 0
      · rw [if_neg (fun g => g hs)] at h ⊢
        have hm := (swap_zero (by rw [swapAt_chain] at hs; exact hs)).1
        rw [i3, i4 _ (Nat.lt_succ_self j)] at hm
        have ep : pre all (j + 2) = mergeC (at_ o j) (at_ o (j + 1)) := by rw [i3, i4 _ (Nat.lt_succ_self j)]; exact pre_succ (by omega)
        refine ⟨⟨(stepE_len _ _).trans i1, ?_, ?_, ?_⟩, ?_⟩
        · intro i hi
          show at_ (stepE o _) i = _
          rw [step_chain hs]
          by_cases hij : i = j
          · subst hij; rw [if_pos ⟨.inl rfl, by omega⟩, ep]
          · rw [if_neg (by omega)]; exact i2 i (by omega)
        · show at_ (stepE o _) (j + 1) = _
          rw [step_chain hs, if_pos ⟨.inr rfl, by omega⟩, ep]
        · intro i hi
          show at_ (stepE o _) i = _
          rw [step_chain hs, if_neg (by omega)]
          exact i4 i (by omega)
        · intro i hi
          by_cases hij : i = j
          · subst hij; exact hm
          · exact i5 i (by omega)
      · rw [if_pos hs] at h; exact absurd h hs
    · rw [if_pos hz] at h; exact absurd h hz
theorem back_again {M : List Clm} {n : Nat} {p : Nat → List Clm} (hp : ∀ i, i < n → mergeC (p i) M = M) : ∀ (j : Nat) (o : List (List Clm)), o.length = n → j + 1 ≤ n → (∀ i, i < n → j ≤ i → at_ o i = M) → (∀ i, i < j → at_ o i = p i) →
    (runE o (chain j).reverse).2 = 0 → (runE o (chain j).reverse).1.length = n ∧ ∀ i, i < n → at_ (runE o (chain j).reverse).1 i = M := by
  intro j
  induction j with
  | zero => intro o hl _ h1 _ _; exact ⟨hl, fun i hi => h1 i hi (Nat.zero_le _)⟩
  | succ j ih =>
    intro o hl hj h1 h2 h
    rw [chain_succ, List.reverse_append, List.reverse_singleton, List.singleton_append] at h ⊢
    rw [runE] at h ⊢
    by_cases hs : (swapAt o ⟨(j : Nat), (j : Nat) + 1⟩).2 = 0
    · rw [if_neg (fun g => g hs)] at h ⊢
      have em : mergeC (at_ o j) (at_ o (j + 1)) = M := by rw [h1 (j + 1) (by omega) (Nat.le_refl _), h2 j (by omega)]; exact hp j (by omega)
      refine ih _ ((stepE_len _ _).trans hl) (by omega) ?_ ?_ h
      · intro i hi hji
        rw [step_chain hs, em]
        split
        · rfl
        · rename_i hq; exact h1 i hi (by omega)
      · intro i hi
        rw [step_chain hs, if_neg (by omega)]
        exact h2 i (by omega)
    · rw [if_pos hs] at h; exact absurd h hs
theorem pre_up {all : List (List Clm)} {n : Nat} (h0 : n ≤ all.length) (hu : ∀ i, i < n → UpC (at_ all i)) : ∀ k, k ≤ n → UpC (pre all k) := by
  intro k
  induction k with
  | zero => intro _; exact List.Pairwise.nil
  | succ k ih => intro hk; rw [pre_succ (by omega)]; exact mergeC_up _ _ (ih (by omega)) (hu k (by omega))
theorem pre_in {all : List (List Clm)} {n : Nat} (h0 : n ≤ all.length) (hu : ∀ i, i < n → UpC (at_ all i)) {k : Nat} : ∀ d, k + d ≤ n → mergeC (pre all k) (pre all (k + d)) = pre all (k + d) := by
  intro d
  induction d with
  | zero => intro hk; exact merge_self (pre_up h0 hu k (by omega))
  | succ d ih =>
    intro hk
    rw [show k + (d + 1) = (k + d) + 1 from rfl, pre_succ (by omega), ← mergeC_assoc (pre_up h0 hu k (by omega)) (pre_up h0 hu _ (by omega)) (hu _ (by omega)), ih (by omega)]
/-- along a chain and back all come to have all claims -/
theorem all_law {all : List (List Clm)} (h2 : 2 ≤ all.length) (h : (spreadN all (chain (all.length - 1) ++ (chain (all.length - 1)).reverse)).2 = 0) :
    (∀ k, k < all.length → mergeN (pre all k) (at_ all k) = (pre all (k + 1), 0)) ∧ (spreadN all (chain (all.length - 1) ++ (chain (all.length - 1)).reverse)).1 = List.replicate all.length (pre all all.length) := by
  obtain ⟨_, _, e⟩ := spread_zero h
  rw [e] at h ⊢
  rw [runE_app] at h ⊢
  obtain ⟨n, hn⟩ : ∃ n, all.length = n + 1 := ⟨all.length - 1, by omega⟩
  rw [hn] at h h2 ⊢
  rw [Nat.add_sub_cancel] at h ⊢
  by_cases hz : (runE all (chain n)).2 = 0
  · rw [if_neg (fun g => g hz)] at h ⊢
    obtain ⟨⟨t1, t2, t3, t4⟩, t5⟩ := there n (by omega) hz
    have k0 : checkC (at_ all 0) = 0 := by have := (mergeN_zero.1 (t5 0 (by omega))).1; rwa [pre_one (by omega)] at this
    have hall : ∀ i, i < n + 1 → checkC (at_ all i) = 0 := by
      intro i hi
      rcases Nat.eq_zero_or_pos i with rfl | hp
      · exact k0
      · have := (mergeN_zero.1 (t5 (i - 1) (by omega))).2.1
        rwa [Nat.sub_add_cancel hp] at this
    have hu : ∀ i, i < n + 1 → UpC (at_ all i) := fun i hi => upOf (hall i hi)
    refine ⟨?_, ?_⟩
    · intro k hk
      rcases Nat.eq_zero_or_pos k with rfl | hp
      · have hm : (mergeN [] (at_ all 0)).2 = 0 := mergeN_zero.2 ⟨by decide, k0, by rw [nil_mergeC]; exact (checkC_zero.1 k0).1⟩
        show mergeN [] (at_ all 0) = _
        rw [mergeN_ok hm, nil_mergeC, pre_one (by omega)]
      · have hm := t5 (k - 1) (by omega)
        rw [Nat.sub_add_cancel hp] at hm
        rw [mergeN_ok hm, ← pre_succ (by omega)]
    · obtain ⟨b1, b2⟩ := back_again (M := pre all (n + 1)) (n := n + 1) (p := fun i => pre all (if i + 2 ≤ n + 1 then i + 2 else n + 1)) (fun i hi => by
        split
        · have := pre_in (by omega) hu (k := i + 2) (n + 1 - (i + 2)) (by omega)
          rwa [show i + 2 + (n + 1 - (i + 2)) = n + 1 from by omega] at this
        · exact merge_self (pre_up (by omega) hu _ (Nat.le_refl _))) n (runE all (chain n)).1 (t1.trans hn) (by omega)
        (fun i hi hji => by obtain rfl : i = n := by omega
                            exact t3)
        (fun i hi => by rw [t2 i hi, if_pos (by omega)]) h
      apply List.ext_getElem
      · rw [b1, List.length_replicate]
      · intro i h1 h2
        have := b2 i (by omega)
        unfold at_ at this
        rw [List.getD_eq_getElem?_getD, List.getElem?_eq_getElem h1] at this
        rw [List.getElem_replicate]
        exact this
  · rw [if_pos hz] at h; exact absurd h hz
end Go.Proofs.Ytokilodekbjpnaa
