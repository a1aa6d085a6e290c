/- Claims that go around: plain laws. No program in sight. -/
import Derived.Test.YtokilodekbjpnaaClaimLaw
import Derived.Maps.Views
namespace Go.Proofs.Ytokilodekbjpnaa
open Go.RowKit Go.Maps

/-- what was seen of a claim: its name and its version -/
structure Sn where
  nm : ByteArray
  v : Int
instance : Inhabited Sn := ⟨⟨⟨#[]⟩, 0⟩⟩
def seenC (c : Clm) : Sn := ⟨c.nm, c.v⟩
def lookS : List Sn → ByteArray → Option Int
  | [], _ => none
  | s :: l, n => if s.nm = n then some s.v else lookS l n
def RiseS (l : List Sn) : Prop := l.Pairwise (fun x y => nlt x.nm y.nm)
def keepS (d : List Sn) (c : Clm) : Bool := match lookS d c.nm with | none => true | some v => decide (v ≤ c.v)
def digN (a : List Clm) : List Sn × Int := if checkC a ≠ 0 then ([], checkC a) else (a.map seenC, 0)
def deltaN (b : List Clm) (d : List Sn) : List Clm × Int := if checkC b ≠ 0 then ([], checkC b) else (b.filter (keepS d), 0)
/-- what one has, when another one has told it what it lacks -/
def toldN (a b : List Clm) : List Clm := (mergeN a (deltaN b (digN a).1).1).1

theorem lookS_dig {a : List Clm} (t : ByteArray) : lookS (a.map seenC) t = (lookC a t).map (fun c => c.v) := by
  induction a with
  | nil => rfl
  | cons x a ih =>
    rw [List.map_cons, lookS, lookC]
    by_cases h : x.nm = t
    · rw [if_pos (show (seenC x).nm = t from h), if_pos h]; rfl
    · rw [if_neg (show ¬ (seenC x).nm = t from h), if_neg h, ih]
theorem rise_dig {a : List Clm} (h : UpC a) : RiseS (a.map seenC) := by
  unfold RiseS
  rw [List.pairwise_map]
  exact h
theorem dig_rise (a : List Clm) : RiseS (digN a).1 ∧ (digN a).1.length ≤ 20 ∧ ∀ s ∈ (digN a).1, s.nm.size ≤ 20 := by
  unfold digN
  split
  · exact ⟨List.Pairwise.nil, by simp, fun s hs => by cases hs⟩
  · rename_i h
    obtain ⟨h1, h2, h3⟩ := checkC_zero.1 (Decidable.not_not.1 h)
    refine ⟨rise_dig h3, by simpa using h1, fun s hs => ?_⟩
    obtain ⟨c, hc, rfl⟩ := List.mem_map.1 hs
    have hn := (h2 c hc).1
    unfold nodeN at hn
    split at hn
    · omega
    · rename_i hq; show c.nm.size ≤ 20; omega
theorem up_filter {l : List Clm} (h : UpC l) (p : Clm → Bool) : UpC (l.filter p) := h.filter p
def filt (p : Clm → Bool) : Option Clm → Option Clm
  | none => none
  | some c => if p c = true then some c else none
theorem lookC_filter {l : List Clm} (h : UpC l) (p : Clm → Bool) (t : ByteArray) : lookC (l.filter p) t = filt p (lookC l t) := by
  induction l with
  | nil => rfl
  | cons x l ih =>
    have ih := ih (upC_tail h)
    rw [List.filter_cons]
    by_cases hx : x.nm = t
    · rw [show lookC (x :: l) t = some x by rw [lookC, if_pos hx]]
      by_cases hp : p x = true
      · rw [if_pos hp, lookC, if_pos hx, filt, if_pos hp]
      · rw [if_neg hp, ih, lookC_none (l := l) (fun s hs => by rw [← hx]; exact upC_mem h s hs)]
        rw [filt, filt, if_neg hp]
    · rw [show lookC (x :: l) t = lookC l t by rw [lookC, if_neg hx]]
      split
      · rw [lookC, if_neg hx, ih]
      · exact ih
/-- who is told what it lacks has what both had -/
theorem newest_old {x y : Clm} (h : ¬ x.v ≤ y.v) : newest x y = x := by
  have hn : newerN y x = false := by
    rw [Bool.eq_false_iff]
    intro h1
    have h2 := newerN_iff.1 h1
    unfold cmpC at h2
    rw [orL3, if_pos (by rw [ne_eq, cmpI_zero]; omega)] at h2
    have := cmpI_pos.1 h2
    omega
  unfold newest
  rw [hn]; rfl
theorem merge_delta {a b : List Clm} (ua : UpC a) (ub : UpC b) : mergeC a (b.filter (keepS (a.map seenC))) = mergeC a b :=
  lookC_ext _ _ (mergeC_up _ _ ua (up_filter ub _)) (mergeC_up _ _ ua ub) (fun t => by
    rw [lookC_merge _ _ ua (up_filter ub _), lookC_merge _ _ ua ub, lookC_filter ub]
    cases hb : lookC b t with
    | none => rfl
    | some y =>
      have hy := lookC_nm hb
      cases ha : lookC a t with
      | none =>
        have hk : keepS (a.map seenC) y = true := by unfold keepS; rw [lookS_dig, hy, ha]; rfl
        rw [filt, if_pos hk]
      | some x =>
        have hk : keepS (a.map seenC) y = decide (x.v ≤ y.v) := by unfold keepS; rw [lookS_dig, hy, ha]; rfl
        by_cases hv : x.v ≤ y.v
        · rw [filt, if_pos (by rw [hk]; exact decide_eq_true hv)]
        · rw [filt, if_neg (by rw [hk]; simpa using hv)]
          simp only [joinC]
          rw [newest_old hv])
theorem check_filter {b : List Clm} (h : checkC b = 0) (p : Clm → Bool) : checkC (b.filter p) = 0 := by
  obtain ⟨h1, h2, h3⟩ := checkC_zero.1 h
  exact checkC_zero.2 ⟨Nat.le_trans (List.length_filter_le _ _) h1, fun c hc => h2 c (List.mem_filter.1 hc).1, up_filter h3 p⟩
theorem told_ok {a b : List Clm} (h : (mergeN a b).2 = 0) : mergeN a (deltaN b (digN a).1).1 = mergeN a b := by
  obtain ⟨ka, kb, kl⟩ := mergeN_zero.1 h
  have ua := (checkC_zero.1 ka).2.2
  have ub := (checkC_zero.1 kb).2.2
  have ed : (deltaN b (digN a).1).1 = b.filter (keepS (a.map seenC)) := by
    unfold deltaN digN
    rw [if_neg (fun g => g kb), if_neg (fun g => g ka)]
  rw [ed, mergeN_ok h]
  have hz : (mergeN a (b.filter (keepS (a.map seenC)))).2 = 0 := mergeN_zero.2 ⟨ka, check_filter kb _, by rw [merge_delta ua ub]; exact kl⟩
  rw [mergeN_ok hz, merge_delta ua ub]
theorem told_eq {a b : List Clm} (h : (mergeN a b).2 = 0) : toldN a b = (mergeN a b).1 := by unfold toldN; rw [told_ok h]

/-- the map of what was seen -/
def keyS (n : ByteArray) : Lit := .string n.data.toList
def seenD (l : List Sn) : DataW Unit := l.foldl (fun D s => D.put (keyS s.nm) (.lit (.int .i64 s.v))) (.map [])
theorem seenD_snoc (l : List Sn) (s : Sn) : seenD (l ++ [s]) = (seenD l).put (keyS s.nm) (.lit (.int .i64 s.v)) := by simp [seenD, List.foldl_append]
theorem seenD_map (l : List Sn) : IsMap (seenD l) := by
  have h : ∀ (l : List Sn) (D : DataW Unit), IsMap D → IsMap (l.foldl (fun D s => D.put (keyS s.nm) (.lit (.int .i64 s.v))) D) := by
    intro l
    induction l with
    | nil => intro D h; exact h
    | cons s l ih => intro D h; exact ih _ (h.put _ _)
  exact h l _ isMap_empty
theorem keyS_inj {a b : ByteArray} (h : keyS a = keyS b) : a = b := by
  unfold keyS at h
  injection h with h
  apply toList_eq
  rw [ByteArray.toList_eq, ByteArray.toList_eq]
  exact h
theorem lookS_snoc (l : List Sn) (s : Sn) (n : ByteArray) (hd : ∀ x ∈ l, x.nm ≠ s.nm) : lookS (l ++ [s]) n = if s.nm = n then some s.v else lookS l n := by
  induction l with
  | nil => rfl
  | cons x l ih =>
    rw [List.cons_append, lookS, ih (fun y hy => hd y (by simp [hy])), lookS]
    by_cases h1 : x.nm = n
    · rw [if_pos h1, if_pos h1]
      by_cases h2 : s.nm = n
      · exact absurd (h1.trans h2.symm) (hd x (by simp))
      · rw [if_neg h2]
    · rw [if_neg h1, if_neg h1]
theorem seenD_look {l : List Sn} (h : RiseS l) (n : ByteArray) : Maps.has (seenD l) (keyS n) = (lookS l n).isSome ∧ (seenD l).atKey (keyS n) (.lit (.int .i64 0)) = .lit (.int .i64 ((lookS l n).getD 0)) := by
  have key : ∀ (k : Nat) (l : List Sn), l.length = k → RiseS l → Maps.has (seenD l) (keyS n) = (lookS l n).isSome ∧ (seenD l).atKey (keyS n) (.lit (.int .i64 0)) = .lit (.int .i64 ((lookS l n).getD 0)) := by
    intro k
    induction k with
    | zero =>
      intro l hl _
      obtain rfl : l = [] := List.eq_nil_of_length_eq_zero hl
      exact ⟨rfl, rfl⟩
    | succ k ih =>
      intro l hl hr
      obtain ⟨m, s, rfl⟩ : ∃ m s, l = m ++ [s] := ⟨l.dropLast, l.getLast (by intro e; rw [e] at hl; simp at hl), (List.dropLast_concat_getLast _).symm⟩
      have hm : m.length = k := by simpa using hl
      have hd : ∀ x ∈ m, x.nm ≠ s.nm := fun x hx => nlt_ne ((List.pairwise_append.1 hr).2.2 x hx s (by simp))
      have hrm : RiseS m := (List.pairwise_append.1 hr).1
      obtain ⟨i1, i2⟩ := ih m hm hrm
      rw [seenD_snoc, lookS_snoc m s n hd]
      by_cases hs : s.nm = n
      · subst hs
        rw [if_pos rfl, has_put_same (seenD_map m) (show WideAt.IsKeyLit (keyS _) from trivial), atKey_put_same (seenD_map m) (show WideAt.IsKeyLit (keyS _) from trivial)]
        exact ⟨rfl, rfl⟩
      · have hk : keyS n ≠ keyS s.nm := fun e => hs (keyS_inj e).symm
        rw [if_neg hs, has_put_other hk, atKey_put_other hk]
        exact ⟨i1, i2⟩
  exact key l.length l rfl h
end Go.Proofs.Ytokilodekbjpnaa
