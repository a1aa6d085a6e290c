/- Claims that are merged: plain laws. No program in sight. -/
import Derived.Test.YtokilodekbjpnaaNewerLaw
import Derived.Test.YtokilodekbjpnaaRing1
import Derived.Test.YtokilodekbjpnaaNameLaw
import Derived.Sort.Walk0
namespace Go.Proofs.Ytokilodekbjpnaa
open Go.RowKit


def newest (x y : Clm) : Clm := if newerN y x then y else x
theorem newest_nm {x y : Clm} (h : y.nm = x.nm) : (newest x y).nm = x.nm := by unfold newest; split <;> simp [h]
theorem newest_nm2 {x y : Clm} : (newest x y).nm = x.nm ∨ (newest x y).nm = y.nm := by unfold newest; split <;> simp
theorem newest_comm {x y : Clm} (h : x.nm = y.nm) : newest x y = newest y x := by
  unfold newest
  cases hp : newerN y x
  · cases hq : newerN x y
    · have := newer_total h
      rw [hp, hq] at this
      have e : x = y := by
        by_cases e : x = y
        · exact e
        · rw [decide_eq_false e] at this; cases this
      simp [e]
    · rfl
  · rw [newer_asym hp]; rfl
theorem newest_self (x : Clm) : newest x x = x := by unfold newest; split <;> rfl
theorem newest_again (x y : Clm) : newest (newest x y) y = newest x y := by
  unfold newest
  cases hp : newerN y x
  · simp [hp]
  · simp [newer_self]
theorem newest_assoc (x y z : Clm) : newest (newest x y) z = newest x (newest y z) := by
  unfold newest
  cases hp : newerN y x <;> cases hq : newerN z y
  · simp only [hp, Bool.false_eq_true, if_false]
    have hr : newerN z x = false := by
      rw [Bool.eq_false_iff]
      intro h
      have e1 := newerN_iff.1 h
      have e2 : ¬ 0 < cmpC y x := fun h => by rw [newerN_iff.2 h] at hp; cases hp
      have e3 : ¬ 0 < cmpC z y := fun h => by rw [newerN_iff.2 h] at hq; cases hq
      have a1 := cmpC_anti x y
      have a2 := cmpC_anti y z
      have a3 := cmpC_anti x z
      have := cmpC_trans (a := x) (b := y) (c := z) (by omega) (by omega)
      omega
    simp [hr]
  · simp
  · simp [hp, hq]
  · simp [hq, newer_trans hq hp]
/-- the newest of two is not older than either -/
theorem newest_left (x y : Clm) : newerN x (newest x y) = false := by
  unfold newest; split
  · rename_i h; exact newer_asym h
  · exact newer_self x
theorem newest_right (x y : Clm) : newerN y (newest x y) = false := by
  unfold newest; split
  · exact newer_self y
  · rename_i h; simpa using h

def mergeC : List Clm → List Clm → List Clm
  | [], b => b
  | x :: a, [] => x :: a
  | x :: a, y :: b =>
    if nlt x.nm y.nm then x :: mergeC a (y :: b)
    else if nlt y.nm x.nm then y :: mergeC (x :: a) b
    else newest x y :: mergeC a b
termination_by a b => a.length + b.length

def lookC : List Clm → ByteArray → Option Clm
  | [], _ => none
  | x :: l, n => if x.nm = n then some x else lookC l n
def joinC : Option Clm → Option Clm → Option Clm
  | none, y => y
  | some x, none => some x
  | some x, some y => some (newest x y)
def UpC (l : List Clm) : Prop := l.Pairwise (fun x y => nlt x.nm y.nm)
theorem lookC_nm {l : List Clm} {n : ByteArray} {c : Clm} (h : lookC l n = some c) : c.nm = n := by
  induction l with
  | nil => cases h
  | cons x l ih =>
    rw [lookC] at h
    split at h
    · injection h with h; rw [← h]; assumption
    · exact ih h
theorem lookC_mem {l : List Clm} {n : ByteArray} {c : Clm} (h : lookC l n = some c) : c ∈ l := by
  induction l with
  | nil => cases h
  | cons x l ih =>
    rw [lookC] at h
    split at h
    · injection h with h; rw [← h]; simp
    · exact List.mem_cons_of_mem _ (ih h)
theorem lookC_none {l : List Clm} {n : ByteArray} (h : ∀ s ∈ l, nlt n s.nm) : lookC l n = none := by
  induction l with
  | nil => rfl
  | cons x l ih =>
    rw [lookC, if_neg (fun e => nlt_ne (h x (by simp)) e.symm)]
    exact ih (fun s hs => h s (by simp [hs]))
theorem joinC_comm {x y : Option Clm} {n : ByteArray} (hx : ∀ c, x = some c → c.nm = n) (hy : ∀ c, y = some c → c.nm = n) : joinC x y = joinC y x := by
  cases x with
  | none => cases y <;> rfl
  | some x =>
    cases y with
    | none => rfl
    | some y => simp only [joinC]; rw [newest_comm ((hx _ rfl).trans (hy _ rfl).symm)]
theorem joinC_assoc (x y z : Option Clm) : joinC (joinC x y) z = joinC x (joinC y z) := by
  cases x <;> cases y <;> cases z <;> simp [joinC, newest_assoc]
theorem joinC_again (x y : Option Clm) : joinC (joinC x y) y = joinC x y := by
  cases x <;> cases y <;> simp [joinC, newest_again, newest_self]
theorem upC_mem {x : Clm} {l : List Clm} (h : UpC (x :: l)) : ∀ s ∈ l, nlt x.nm s.nm := (List.pairwise_cons.1 h).1
theorem upC_tail {x : Clm} {l : List Clm} (h : UpC (x :: l)) : UpC l := (List.pairwise_cons.1 h).2
theorem lookC_at {l : List Clm} (h : UpC l) {c : Clm} (hc : c ∈ l) : lookC l c.nm = some c := by
  induction l with
  | nil => cases hc
  | cons x l ih =>
    rw [lookC]
    rcases List.mem_cons.1 hc with rfl | hc
    · rw [if_pos rfl]
    · rw [if_neg (nlt_ne (upC_mem h c hc))]
      exact ih (upC_tail h) hc

theorem lookC_merge (a b : List Clm) (ha : UpC a) (hb : UpC b) (t : ByteArray) : lookC (mergeC a b) t = joinC (lookC a t) (lookC b t) := by
  fun_induction mergeC a b with
  | case1 b => simp [lookC, joinC]
  | case2 x a => cases h : lookC (x :: a) t <;> simp [lookC, joinC]
  | case3 x a y b h ih =>
    rw [lookC, ih (upC_tail ha) hb]
    by_cases hx : x.nm = t
    · rw [if_pos hx, lookC, if_pos hx, lookC_none (l := y :: b) (n := t)]
      · rfl
      · intro s hs
        rw [← hx]
        rcases List.mem_cons.1 hs with rfl | hs
        · exact h
        · exact nlt_trans h (upC_mem hb s hs)
    · rw [if_neg hx, show lookC (x :: a) t = lookC a t by rw [lookC, if_neg hx]]
  | case4 x a y b h h2 ih =>
    rw [lookC, ih ha (upC_tail hb)]
    by_cases hy : y.nm = t
    · rw [if_pos hy, show lookC (y :: b) t = some y by rw [lookC, if_pos hy], lookC_none (l := x :: a) (n := t)]
      · rfl
      · intro s hs
        rw [← hy]
        rcases List.mem_cons.1 hs with rfl | hs
        · exact h2
        · exact nlt_trans h2 (upC_mem ha s hs)
    · rw [if_neg hy, show lookC (y :: b) t = lookC b t by rw [lookC, if_neg hy]]
  | case5 x a y b h h2 ih =>
    have hxy : x.nm = y.nm := nlt_tri h h2
    rw [lookC, ih (upC_tail ha) (upC_tail hb), newest_nm hxy.symm]
    by_cases hx : x.nm = t
    · rw [if_pos hx, show lookC (x :: a) t = some x by rw [lookC, if_pos hx], show lookC (y :: b) t = some y by rw [lookC, if_pos (hxy.symm.trans hx)]]
      rfl
    · rw [if_neg hx, show lookC (x :: a) t = lookC a t by rw [lookC, if_neg hx], show lookC (y :: b) t = lookC b t by rw [lookC, if_neg (fun e => hx (hxy.trans e))]]
theorem mergeC_mem (a b : List Clm) : ∀ s ∈ mergeC a b, s ∈ a ∨ s ∈ b := by
  fun_induction mergeC a b with
  | case1 b => exact fun s hs => .inr hs
  | case2 x a => exact fun s hs => .inl hs
  | case3 x a y b h ih =>
    intro s hs
    rcases List.mem_cons.1 hs with rfl | hs
    · exact .inl (by simp)
    · rcases ih s hs with g | g
      · exact .inl (by simp [g])
      · exact .inr g
  | case4 x a y b h h2 ih =>
    intro s hs
    rcases List.mem_cons.1 hs with rfl | hs
    · exact .inr (by simp)
    · rcases ih s hs with g | g
      · exact .inl g
      · exact .inr (by simp [g])
  | case5 x a y b h h2 ih =>
    intro s hs
    rcases List.mem_cons.1 hs with e | hs
    · have : newest x y = x ∨ newest x y = y := by unfold newest; split <;> simp
      rcases this with g | g
      · exact .inl (by rw [e, g]; simp)
      · exact .inr (by rw [e, g]; simp)
    · rcases ih s hs with g | g
      · exact .inl (by simp [g])
      · exact .inr (by simp [g])
theorem mergeC_up (a b : List Clm) (ha : UpC a) (hb : UpC b) : UpC (mergeC a b) := by
  fun_induction mergeC a b with
  | case1 b => exact hb
  | case2 x a => exact ha
  | case3 x a y b h ih =>
    refine List.pairwise_cons.2 ⟨fun s hs => ?_, ih (upC_tail ha) hb⟩
    rcases mergeC_mem _ _ s hs with g | g
    · exact upC_mem ha s g
    · rcases List.mem_cons.1 g with rfl | g
      · exact h
      · exact nlt_trans h (upC_mem hb s g)
  | case4 x a y b h h2 ih =>
    refine List.pairwise_cons.2 ⟨fun s hs => ?_, ih ha (upC_tail hb)⟩
    rcases mergeC_mem _ _ s hs with g | g
    · rcases List.mem_cons.1 g with rfl | g
      · exact h2
      · exact nlt_trans h2 (upC_mem ha s g)
    · exact upC_mem hb s g
  | case5 x a y b h h2 ih =>
    have hxy : x.nm = y.nm := nlt_tri h h2
    refine List.pairwise_cons.2 ⟨fun s hs => ?_, ih (upC_tail ha) (upC_tail hb)⟩
    rw [newest_nm hxy.symm]
    rcases mergeC_mem _ _ s hs with g | g
    · exact upC_mem ha s g
    · rw [hxy]; exact upC_mem hb s g
theorem lookC_ext (a b : List Clm) (ha : UpC a) (hb : UpC b) (h : ∀ t, lookC a t = lookC b t) : a = b := by
  induction a generalizing b with
  | nil =>
    cases b with
    | nil => rfl
    | cons y b => have := h y.nm; simp [lookC] at this
  | cons x a ih =>
    cases b with
    | nil => have := h x.nm; simp [lookC] at this
    | cons y b =>
      have hx := h x.nm
      have hy := h y.nm
      have e : x.nm = y.nm := by
        apply nlt_tri
        · intro g
          rw [lookC_none (l := y :: b) (n := x.nm) (fun s hs => by
            rcases List.mem_cons.1 hs with rfl | hs
            · exact g
            · exact nlt_trans g (upC_mem hb s hs))] at hx
          simp [lookC] at hx
        · intro g
          rw [lookC_none (l := x :: a) (n := y.nm) (fun s hs => by
            rcases List.mem_cons.1 hs with rfl | hs
            · exact g
            · exact nlt_trans g (upC_mem ha s hs))] at hy
          simp [lookC] at hy
      rw [lookC, if_pos rfl, lookC, if_pos e.symm] at hx
      have exy : x = y := Option.some.inj hx
      subst exy
      rw [ih b (upC_tail ha) (upC_tail hb) (fun t => by
        have ht := h t
        by_cases hxt : x.nm = t
        · rw [lookC_none (l := a) (fun s hs => by rw [← hxt]; exact upC_mem ha s hs), lookC_none (l := b) (fun s hs => by rw [← hxt]; exact upC_mem hb s hs)]
        · rwa [lookC, if_neg hxt, lookC, if_neg hxt] at ht)]
theorem mergeC_comm {a b : List Clm} (ha : UpC a) (hb : UpC b) : mergeC a b = mergeC b a :=
  lookC_ext _ _ (mergeC_up _ _ ha hb) (mergeC_up _ _ hb ha) (fun t => by
    rw [lookC_merge _ _ ha hb, lookC_merge _ _ hb ha]
    exact joinC_comm (n := t) (fun c h => lookC_nm h) (fun c h => lookC_nm h))
theorem mergeC_again {a b : List Clm} (ha : UpC a) (hb : UpC b) : mergeC (mergeC a b) b = mergeC a b :=
  lookC_ext _ _ (mergeC_up _ _ (mergeC_up _ _ ha hb) hb) (mergeC_up _ _ ha hb) (fun t => by
    rw [lookC_merge _ _ (mergeC_up _ _ ha hb) hb, lookC_merge _ _ ha hb, joinC_again])
theorem mergeC_assoc {a b c : List Clm} (ha : UpC a) (hb : UpC b) (hc : UpC c) : mergeC (mergeC a b) c = mergeC a (mergeC b c) :=
  lookC_ext _ _ (mergeC_up _ _ (mergeC_up _ _ ha hb) hc) (mergeC_up _ _ ha (mergeC_up _ _ hb hc)) (fun t => by
    rw [lookC_merge _ _ (mergeC_up _ _ ha hb) hc, lookC_merge _ _ ha hb, lookC_merge _ _ ha (mergeC_up _ _ hb hc), lookC_merge _ _ hb hc, joinC_assoc])
theorem mergeC_nil (a : List Clm) : mergeC a [] = a := by cases a <;> simp [mergeC]
theorem nil_mergeC (a : List Clm) : mergeC [] a = a := by simp [mergeC]

/-- one claim in its form -/
def clmN (last : ByteArray) (c : Clm) : Int := if nodeN c.nm c.tk ≠ 0 then nodeN c.nm c.tk else if ¬ nlt last c.nm then 5 else if c.v < 0 ∨ c.s < 1 ∨ 4 < c.s then 4 else 0
def goC (last : ByteArray) : List Clm → Int
  | [] => 0
  | c :: l => if clmN last c ≠ 0 then clmN last c else goC c.nm l
def checkC (l : List Clm) : Int := if 20 < l.length then 2 else goC ⟨#[]⟩ l
def okC (c : Clm) : Prop := nodeN c.nm c.tk = 0 ∧ nlt ⟨#[]⟩ c.nm ∧ 0 ≤ c.v ∧ 1 ≤ c.s ∧ c.s ≤ 4
theorem goC_zero : ∀ {l : List Clm} {last : ByteArray}, goC last l = 0 ↔ (∀ c ∈ l, nlt last c.nm ∧ nodeN c.nm c.tk = 0 ∧ 0 ≤ c.v ∧ 1 ≤ c.s ∧ c.s ≤ 4) ∧ UpC l
  | [], _ => by simp [goC, UpC]
  | c :: l, last => by
    rw [goC]
    have ih := goC_zero (l := l) (last := c.nm)
    have hz : clmN last c = 0 ↔ nlt last c.nm ∧ nodeN c.nm c.tk = 0 ∧ 0 ≤ c.v ∧ 1 ≤ c.s ∧ c.s ≤ 4 := by
      unfold clmN
      constructor
      · intro h
        split at h
        · rename_i g; exact absurd h g
        · split at h
          · omega
          · split at h
            · omega
            · rename_i g1 g2 g3
              exact ⟨Decidable.not_not.1 g2, by omega, by omega, by omega, by omega⟩
      · rintro ⟨h1, h2, h3, h4, h5⟩
        rw [if_neg (by omega), if_neg (fun g => g h1), if_neg (by omega)]
    constructor
    · intro h
      split at h
      · rename_i g; exact absurd h g
      · rename_i g
        have g := Decidable.not_not.1 g
        obtain ⟨k1, k2⟩ := ih.1 h
        have k0 := hz.1 g
        refine ⟨fun d hd => ?_, List.pairwise_cons.2 ⟨fun d hd => (k1 d hd).1, k2⟩⟩
        rcases List.mem_cons.1 hd with rfl | hd
        · exact k0
        · exact ⟨nlt_trans k0.1 (k1 d hd).1, (k1 d hd).2⟩
    · rintro ⟨h1, h2⟩
      rw [if_neg (fun g => g (hz.2 (h1 c (by simp))))]
      exact ih.2 ⟨fun d hd => ⟨upC_mem h2 d hd, (h1 d (by simp [hd])).2⟩, upC_tail h2⟩
theorem checkC_zero {l : List Clm} : checkC l = 0 ↔ l.length ≤ 20 ∧ (∀ c ∈ l, okC c) ∧ UpC l := by
  unfold checkC
  constructor
  · intro h
    split at h
    · omega
    · obtain ⟨h1, h2⟩ := goC_zero.1 h
      exact ⟨by omega, fun c hc => ⟨(h1 c hc).2.1, (h1 c hc).1, (h1 c hc).2.2⟩, h2⟩
  · rintro ⟨h1, h2, h3⟩
    rw [if_neg (by omega)]
    exact goC_zero.2 ⟨fun c hc => ⟨(h2 c hc).2.1, (h2 c hc).1, (h2 c hc).2.2⟩, h3⟩
/-- what Merge answers -/
def mergeN (a b : List Clm) : List Clm × Int := if checkC a ≠ 0 then ([], checkC a) else if checkC b ≠ 0 then ([], checkC b) else if 20 < (mergeC a b).length then ([], 2) else (mergeC a b, 0)
theorem mergeN_zero {a b : List Clm} : (mergeN a b).2 = 0 ↔ checkC a = 0 ∧ checkC b = 0 ∧ (mergeC a b).length ≤ 20 := by
  unfold mergeN
  constructor
  · intro h
    split at h
    · rename_i g; exact absurd h g
    · split at h
      · rename_i g; exact absurd h g
      · split at h
        · simp at h
        · rename_i g1 g2 g3; exact ⟨Decidable.not_not.1 g1, Decidable.not_not.1 g2, by omega⟩
  · rintro ⟨h1, h2, h3⟩
    rw [if_neg (fun g => g h1), if_neg (fun g => g h2), if_neg (by omega)]
theorem mergeN_ok {a b : List Clm} (h : (mergeN a b).2 = 0) : mergeN a b = (mergeC a b, 0) := by
  obtain ⟨h1, h2, h3⟩ := mergeN_zero.1 h
  unfold mergeN
  rw [if_neg (fun g => g h1), if_neg (fun g => g h2), if_neg (by omega)]
theorem mergeN_bad {a b : List Clm} (h : (mergeN a b).2 ≠ 0) : (mergeN a b).1 = [] := by
  unfold mergeN at h ⊢
  split
  · rfl
  · split
    · rfl
    · split
      · rfl
      · rename_i g1 g2 g3; rw [if_neg g1, if_neg g2, if_neg g3] at h; exact absurd rfl h
theorem mergeN_comm_zero {a b : List Clm} : (mergeN a b).2 = 0 ↔ (mergeN b a).2 = 0 := by
  have h : ∀ {a b : List Clm}, (mergeN a b).2 = 0 → (mergeN b a).2 = 0 := by
    intro a b h
    obtain ⟨h1, h2, h3⟩ := mergeN_zero.1 h
    refine mergeN_zero.2 ⟨h2, h1, ?_⟩
    rw [mergeC_comm (checkC_zero.1 h2).2.2 (checkC_zero.1 h1).2.2]; exact h3
  exact ⟨h, h⟩
theorem mergeC_ok {a b : List Clm} (ha : checkC a = 0) (hb : checkC b = 0) (h : (mergeC a b).length ≤ 20) : checkC (mergeC a b) = 0 := by
  obtain ⟨_, a2, a3⟩ := checkC_zero.1 ha
  obtain ⟨_, b2, b3⟩ := checkC_zero.1 hb
  refine checkC_zero.2 ⟨h, fun c hc => ?_, mergeC_up _ _ a3 b3⟩
  rcases mergeC_mem _ _ c hc with g | g
  · exact a2 c g
  · exact b2 c g
end Go.Proofs.Ytokilodekbjpnaa
