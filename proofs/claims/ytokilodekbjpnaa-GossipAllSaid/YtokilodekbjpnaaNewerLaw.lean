/- Of claims one is newer: plain laws. No program in sight. -/
import Derived.Test.YtokilodekbjpnaaSameD
namespace Go.Proofs.Ytokilodekbjpnaa
open Go.RowKit

theorem cmpI_anti (a b : Int) : cmpI b a = - cmpI a b := by unfold cmpI; split <;> split <;> (try split) <;> (try split) <;> omega
theorem cmpI_zero {a b : Int} : cmpI a b = 0 ↔ a = b := by
  unfold cmpI
  constructor
  · intro h; split at h
    · omega
    · split at h <;> omega
  · intro h; rw [if_neg (by omega), if_neg (by omega)]
theorem cmpI_pos {a b : Int} : 0 < cmpI a b ↔ b < a := by
  unfold cmpI
  constructor
  · intro h; split at h
    · omega
    · split at h <;> omega
  · intro h; rw [if_neg (by omega), if_pos h]; decide
theorem cmpI_neg {a b : Int} : cmpI a b < 0 ↔ a < b := by
  have h1 := cmpI_anti a b
  have h2 := cmpI_pos (a := b) (b := a)
  constructor
  · intro h; exact h2.1 (by omega)
  · intro h; have := h2.2 h; omega
theorem cmpL_anti : ∀ (l m : List Nat), cmpL m l = - cmpL l m
  | [], [] => rfl
  | [], _ :: _ => rfl
  | _ :: _, [] => rfl
  | a :: l, b :: m => by
    have h := cmpI_anti (a : Int) b
    rw [cmpL, cmpL, h]
    by_cases h0 : cmpI (a : Int) b = 0
    · rw [if_neg (by omega), if_neg (by omega)]; exact cmpL_anti l m
    · rw [if_pos (by omega), if_pos h0]
theorem cmpL_zero : ∀ {l m : List Nat}, cmpL l m = 0 ↔ l = m
  | [], [] => by simp [cmpL]
  | [], _ :: _ => by simp [cmpL]
  | _ :: _, [] => by simp [cmpL]
  | a :: l, b :: m => by
    rw [cmpL]
    by_cases h0 : cmpI (a : Int) b = 0
    · rw [if_neg (by omega), cmpL_zero]
      have := cmpI_zero.1 h0
      constructor
      · intro h; rw [h, show a = b by omega]
      · intro h; injection h
    · rw [if_pos h0]
      constructor
      · intro h; exact absurd h h0
      · intro h; injection h with h1 h2; exact absurd (cmpI_zero.2 (by omega)) h0
theorem cmpL_trans : ∀ {l m k : List Nat}, 0 ≤ cmpL l m → 0 ≤ cmpL m k → 0 ≤ cmpL l k ∧ (0 < cmpL l m ∨ 0 < cmpL m k → 0 < cmpL l k)
  | l, m, [] => by
    intro h1 h2
    cases l with
    | nil => cases m with
      | nil => simp [cmpL]
      | cons b m => simp [cmpL] at h1
    | cons a l => simp [cmpL]
  | l, [], c :: k => by intro _ h; simp [cmpL] at h
  | [], b :: m, c :: k => by intro h; simp [cmpL] at h
  | a :: l, b :: m, c :: k => by
    rw [cmpL, cmpL, cmpL]
    intro h1 h2
    have e1 := cmpI_cases (a : Int) b
    have e2 := cmpI_cases (b : Int) c
    have p1 := cmpI_pos (a := (a : Int)) (b := b)
    have p2 := cmpI_pos (a := (b : Int)) (b := c)
    have p3 := cmpI_pos (a := (a : Int)) (b := c)
    have z1 := cmpI_zero (a := (a : Int)) (b := b)
    have z2 := cmpI_zero (a := (b : Int)) (b := c)
    have z3 := cmpI_zero (a := (a : Int)) (b := c)
    by_cases h01 : cmpI (a : Int) b = 0
    · by_cases h02 : cmpI (b : Int) c = 0
      · have h03 : cmpI (a : Int) c = 0 := z3.2 (by have := z1.1 h01; have := z2.1 h02; omega)
        rw [if_neg (by omega)] at h1 h2 ⊢
        rw [if_neg (by omega), if_neg (by omega)]
        exact cmpL_trans h1 h2
      · rw [if_pos h02] at h2
        have : (c : Int) < b := p2.1 (by omega)
        have h03 : 0 < cmpI (a : Int) c := p3.2 (by have := z1.1 h01; omega)
        rw [if_pos (show cmpI (a : Int) c ≠ 0 by omega)]
        exact ⟨by omega, fun _ => h03⟩
    · rw [if_pos h01] at h1
      have g1 : (b : Int) < a := p1.1 (by omega)
      have h03 : 0 < cmpI (a : Int) c := p3.2 (by
        by_cases h02 : cmpI (b : Int) c = 0
        · have := z2.1 h02; omega
        · rw [if_pos h02] at h2; have := p2.1 (show 0 < cmpI (b : Int) c by omega); omega)
      rw [if_pos (show cmpI (a : Int) c ≠ 0 by omega)]
      exact ⟨by omega, fun _ => h03⟩

def cmpC (a b : Clm) : Int := orL [cmpI a.v b.v, cmpI a.s b.s, cmpL a.tk b.tk]
theorem orL3 (x y z : Int) : orL [x, y, z] = if x ≠ 0 then x else if y ≠ 0 then y else z := by
  simp only [orL]
  by_cases hz : z = 0 <;> simp [hz]
theorem newerN_iff {a b : Clm} : newerN a b = true ↔ 0 < cmpC a b := by unfold newerN cmpC; simp
theorem cmpC_anti (a b : Clm) : cmpC b a = - cmpC a b := by
  unfold cmpC
  rw [orL3, orL3, cmpI_anti a.v b.v, cmpI_anti a.s b.s, cmpL_anti a.tk b.tk]
  split <;> split <;> (try split) <;> (try split) <;> omega
theorem cmpC_zero {a b : Clm} : cmpC a b = 0 ↔ a.v = b.v ∧ a.s = b.s ∧ a.tk = b.tk := by
  unfold cmpC
  rw [orL3, ← cmpI_zero (a := a.v), ← cmpI_zero (a := a.s), ← cmpL_zero (l := a.tk)]
  constructor
  · intro h
    split at h
    · omega
    · split at h
      · omega
      · exact ⟨by omega, by omega, h⟩
  · rintro ⟨h1, h2, h3⟩
    rw [if_neg (by omega), if_neg (by omega), h3]
def TR (p q r : Int) : Prop := 0 ≤ p → 0 ≤ q → 0 ≤ r ∧ (0 < p ∨ 0 < q → 0 < r)
theorem TR.lex {p q r p' q' r' : Int} (T : TR p q r) (Z : p = 0 → q = 0 → r = 0) (T' : TR p' q' r') : TR (if p ≠ 0 then p else p') (if q ≠ 0 then q else q') (if r ≠ 0 then r else r') := by
  intro h1 h2
  by_cases hp : p = 0
  · rw [if_neg (show ¬ p ≠ 0 by omega)] at h1 ⊢
    by_cases hq : q = 0
    · rw [if_neg (show ¬ q ≠ 0 by omega)] at h2 ⊢
      have := Z hp hq
      rw [if_neg (show ¬ r ≠ 0 by omega)]
      exact T' h1 h2
    · rw [if_pos hq] at h2 ⊢
      have := T (by omega) h2
      have hr : r ≠ 0 := by omega
      rw [if_pos hr]
      exact ⟨by omega, fun _ => by omega⟩
  · rw [if_pos hp] at h1 ⊢
    have hq : 0 ≤ q := by
      by_cases hq : q = 0
      · omega
      · rw [if_pos hq] at h2; exact h2
    have := T h1 hq
    have hr : r ≠ 0 := by omega
    rw [if_pos hr]
    exact ⟨by omega, fun _ => by omega⟩
theorem cmpI_TR (a b c : Int) : TR (cmpI a b) (cmpI b c) (cmpI a c) := by
  intro h1 h2
  have v1 := cmpI_neg (a := a) (b := b)
  have v2 := cmpI_neg (a := b) (b := c)
  have v3 := cmpI_neg (a := a) (b := c)
  have w1 := cmpI_pos (a := a) (b := b)
  have w2 := cmpI_pos (a := b) (b := c)
  have w3 := cmpI_pos (a := a) (b := c)
  exact ⟨by omega, by omega⟩
theorem cmpI_Z {a b c : Int} (h : cmpI a b = 0) (h' : cmpI b c = 0) : cmpI a c = 0 := by rw [cmpI_zero] at *; omega
theorem cmpC_trans {a b c : Clm} : TR (cmpC a b) (cmpC b c) (cmpC a c) := by
  unfold cmpC
  simp only [orL3]
  exact (cmpI_TR _ _ _).lex cmpI_Z ((cmpI_TR _ _ _).lex cmpI_Z cmpL_trans)

theorem newer_self (a : Clm) : newerN a a = false := by
  rw [Bool.eq_false_iff]; intro h
  have := newerN_iff.1 h
  have := cmpC_anti a a
  omega
theorem newer_asym {a b : Clm} (h : newerN a b = true) : newerN b a = false := by
  rw [Bool.eq_false_iff]; intro h2
  have := newerN_iff.1 h
  have := newerN_iff.1 h2
  have := cmpC_anti a b
  omega
theorem newer_trans {a b c : Clm} (h1 : newerN a b = true) (h2 : newerN b c = true) : newerN a c = true := by
  have h1 := newerN_iff.1 h1
  have h2 := newerN_iff.1 h2
  exact newerN_iff.2 ((cmpC_trans (by omega) (by omega)).2 (.inl h1))
theorem newer_total {a b : Clm} (hn : a.nm = b.nm) : (newerN a b || newerN b a) = !decide (a = b) := by
  have e1 : a = b ↔ cmpC a b = 0 := by rw [cmpC_zero, Clm.same]; simp [hn]
  have e2 := cmpC_anti a b
  have e3 := newerN_iff (a := a) (b := b)
  have e4 := newerN_iff (a := b) (b := a)
  by_cases h0 : cmpC a b = 0
  · have f1 : newerN a b = false := by rw [Bool.eq_false_iff]; intro h; have := e3.1 h; omega
    have f2 : newerN b a = false := by rw [Bool.eq_false_iff]; intro h; have := e4.1 h; omega
    rw [f1, f2, decide_eq_true (e1.2 h0)]; rfl
  · rw [decide_eq_false (fun h => h0 (e1.1 h))]
    rcases (show 0 < cmpC a b ∨ 0 < cmpC b a by omega) with h | h
    · rw [e3.2 h]; rfl
    · rw [e4.2 h]; simp
end Go.Proofs.Ytokilodekbjpnaa
