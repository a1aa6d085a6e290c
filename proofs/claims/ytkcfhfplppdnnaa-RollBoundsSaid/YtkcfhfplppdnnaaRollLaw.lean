/- Windows of samples in plain Lean: how they coalesce, join, and what they tell. No program in sight. -/
import Derived.Test.YtkcfhfplppdnnaaSmp
namespace Go.Proofs.Ytkcfhfplppdnnaa
open Go.RowKit

structure Win where
  t : Int
  n : Int
  s : Int
  lo : Int
  hi : Int
  f : Int
  l : Int
instance : Inhabited Win := ⟨⟨0, 0, 0, 0, 0, 0, 0⟩⟩
def bothW (a b : Win) : Win := ⟨a.t, a.n + b.n, wrap64 (a.s + b.s), min a.lo b.lo, max a.hi b.hi, a.f, b.l⟩
def oneW (s : Smp) : Win := ⟨s.t, 1, s.v, s.v, s.v, s.v, s.v⟩
def startI (t width : Int) : Int := t - t % width
def reT (width : Int) (w : Win) : Win := ⟨startI w.t width, w.n, w.s, w.lo, w.hi, w.f, w.l⟩
def comb (w : Win) : List Win → List Win
  | [] => [w]
  | x :: r => if w.t = x.t then bothW w x :: r else w :: x :: r
def coal : List Win → List Win
  | [] => []
  | w :: l => comb w (coal l)
/-- one list of windows behind another: where they meet two may become one -/
def glue : List Win → List Win → List Win
  | [], c => c
  | x :: b, c => if b = [] then comb x c else x :: glue b c

theorem wrap_assoc (a b c : Int) : wrap64 (wrap64 (a + b) + c) = wrap64 (a + wrap64 (b + c)) := by unfold wrap64; omega
theorem both_assoc (a b c : Win) : bothW (bothW a b) c = bothW a (bothW b c) := by
  simp only [bothW, wrap_assoc, Int.add_assoc, Int.min_assoc, Int.max_assoc]
theorem comb_ne (w : Win) (l : List Win) : comb w l ≠ [] := by
  cases l <;> simp [comb]; split <;> simp
theorem comb_head (w : Win) (l : List Win) : ∃ x r, comb w l = x :: r ∧ x.t = w.t := by
  cases l with
  | nil => exact ⟨w, [], rfl, rfl⟩
  | cons y r =>
    rw [comb]
    split
    · exact ⟨_, _, rfl, rfl⟩
    · exact ⟨_, _, rfl, rfl⟩
theorem comb_comb {w x : Win} (h : w.t = x.t) (l : List Win) : comb w (comb x l) = comb (bothW w x) l := by
  cases l with
  | nil => simp [comb, h]
  | cons y r =>
    have e : (bothW w x).t = w.t := rfl
    by_cases hy : x.t = y.t
    · have e2 : (bothW x y).t = x.t := rfl
      rw [comb, if_pos hy, comb, if_pos (by rw [e2, h]), comb, if_pos (by rw [e, h, hy]), both_assoc]
    · rw [comb, if_neg hy, comb, if_pos h, comb, if_neg (by rw [e, h]; exact hy)]
theorem glue_comb (w : Win) (b c : List Win) (hb : b ≠ []) : glue (comb w b) c = comb w (glue b c) := by
  cases b with
  | nil => exact absurd rfl hb
  | cons x r =>
    by_cases h : w.t = x.t
    · rw [comb, if_pos h]
      by_cases hr : r = []
      · subst hr
        rw [glue, if_pos rfl, glue, if_pos rfl, comb_comb h]
      · rw [glue, if_neg hr, glue, if_neg hr, comb, if_pos h]
    · rw [comb, if_neg h, glue, if_neg (by simp)]
      by_cases hr : r = []
      · subst hr
        rw [glue, if_pos rfl]
        obtain ⟨y, q, e, ht⟩ := comb_head x c
        rw [e, comb, if_neg (by rw [ht]; exact h)]
      · rw [glue, if_neg hr, comb, if_neg h]
theorem coal_nil {l : List Win} : coal l = [] ↔ l = [] := by
  cases l with
  | nil => simp [coal]
  | cons w l => simp [coal, comb_ne]
theorem coal_app (a b : List Win) : coal (a ++ b) = glue (coal a) (coal b) := by
  induction a with
  | nil => rfl
  | cons w a ih =>
    rw [List.cons_append, coal, ih, coal]
    by_cases h : coal a = []
    · rw [h]
      simp [glue, comb]
    · rw [glue_comb _ _ _ h]
theorem coal_one (w : Win) : coal [w] = [w] := rfl

/-- what the code does with one window more -/
theorem glue_new {b : List Win} {w : Win} (h : b = [] ∨ (at_ b (b.length - 1)).t ≠ w.t) : glue b [w] = b ++ [w] := by
  induction b with
  | nil => rfl
  | cons x b ih =>
    rw [glue]
    by_cases hb : b = []
    · subst hb
      rw [if_pos rfl, comb, if_neg]
      · rfl
      · rcases h with h | h
        · simp at h
        · exact h
    · rw [if_neg hb, ih, List.cons_append]
      right
      rcases h with h | h
      · simp at h
      · have : at_ (x :: b) ((x :: b).length - 1) = at_ b (b.length - 1) := by
          cases b with
          | nil => exact absurd rfl hb
          | cons y b => rfl
        rwa [this] at h
theorem glue_same {b : List Win} {w : Win} (hb : b ≠ []) (h : (at_ b (b.length - 1)).t = w.t) : glue b [w] = b.take (b.length - 1) ++ [bothW (at_ b (b.length - 1)) w] := by
  induction b with
  | nil => exact absurd rfl hb
  | cons x b ih =>
    rw [glue]
    by_cases hb2 : b = []
    · subst hb2
      rw [if_pos rfl, comb, if_pos (show x.t = w.t from h)]
      rfl
    · have e : at_ (x :: b) ((x :: b).length - 1) = at_ b (b.length - 1) := by
        cases b with
        | nil => exact absurd rfl hb2
        | cons y b => rfl
      rw [e] at h ⊢
      rw [if_neg hb2, ih hb2 h]
      cases b with
      | nil => exact absurd rfl hb2
      | cons y b => simp

/-! ### Wider windows -/
theorem start_start (t w k : Int) (hw : 0 < w) (hk : 0 < k) : startI (startI t w) (w * k) = startI t (w * k) := by
  unfold startI
  have h1 : t % (w * k) = t % w + w * ((t / w) % k) := by
    rw [Int.emod_def t (w * k), Int.emod_def (t / w) k, Int.emod_def t w, Int.ediv_ediv_of_nonneg (by omega), Int.mul_sub, Int.mul_assoc]
    omega
  have h2 : (t - t % w) % (w * k) = w * ((t / w) % k) := by
    have e : t - t % w = w * (t / w) := by rw [Int.emod_def]; omega
    rw [e, Int.mul_emod_mul_of_pos _ _ hw]
  omega
theorem reT_both (w : Int) (a b : Win) : reT w (bothW a b) = bothW (reT w a) (reT w b) := rfl
theorem coal_reT (w : Int) (l : List Win) : coal ((coal l).map (reT w)) = coal (l.map (reT w)) := by
  induction l with
  | nil => rfl
  | cons x l ih =>
    rw [List.map_cons, coal, coal, ← ih]
    cases h : coal l with
    | nil => rfl
    | cons y r =>
      rw [comb]
      split
      · rename_i e
        rw [List.map_cons, coal, List.map_cons, coal, comb_comb (by simp [reT, e])]
        rfl
      · rfl
theorem coal_again (w k : Int) (hw : 0 < w) (hk : 0 < k) (l : List Win) : coal ((coal (l.map (reT w))).map (reT (w * k))) = coal (l.map (reT (w * k))) := by
  rw [coal_reT, List.map_map]
  congr 1
  apply List.map_congr_left
  intro x _
  simp [reT, start_start _ w k hw hk]

/-! ### What the windows tell -/
def sumN : List Win → Int
  | [] => 0
  | w :: l => w.n + sumN l
def sumS : List Win → Int
  | [] => 0
  | w :: l => wrap64 (w.s + sumS l)
theorem sumN_comb (w : Win) (l : List Win) : sumN (comb w l) = w.n + sumN l := by
  cases l with
  | nil => rfl
  | cons x r => rw [comb]; split <;> simp [sumN, bothW]; omega
theorem sumN_coal (l : List Win) : sumN (coal l) = sumN l := by
  induction l with
  | nil => rfl
  | cons w l ih => rw [coal, sumN_comb, ih, sumN]
theorem sumS_comb (w : Win) (l : List Win) : sumS (comb w l) = wrap64 (w.s + sumS l) := by
  cases l with
  | nil => rfl
  | cons x r =>
    rw [comb]; split
    · simp [sumS, bothW, wrap_assoc]
    · rfl
theorem sumS_coal (l : List Win) : sumS (coal l) = sumS l := by
  induction l with
  | nil => rfl
  | cons w l ih => rw [coal, sumS_comb, ih, sumS]

def Tells (width : Int) (w : Win) (g : List Smp) : Prop :=
  g ≠ [] ∧ w.n = g.length ∧ (∀ s ∈ g, w.t ≤ s.t ∧ s.t - w.t < width ∧ w.lo ≤ s.v ∧ s.v ≤ w.hi) ∧ w.f = (at_ g 0).v ∧ w.l = (at_ g (g.length - 1)).v
inductive Told (width : Int) : List Win → List Smp → Prop
  | nil : Told width [] []
  | cons {w : Win} {a : List Win} {g l : List Smp} : Tells width w g → Told width a l → Told width (w :: a) (g ++ l)
theorem start_in {t w : Int} (hw : 0 < w) : startI t w ≤ t ∧ t - startI t w < w := by
  have h1 := Int.emod_nonneg t (show w ≠ 0 by omega)
  have h2 := Int.emod_lt_of_pos t hw
  unfold startI
  omega
theorem told_coal {width : Int} (hw : 0 < width) (l : List Smp) : Told width (coal (l.map (fun s => reT width (oneW s)))) l := by
  induction l with
  | nil => exact .nil
  | cons s l ih =>
    rw [List.map_cons, coal]
    have h1 := start_in (t := s.t) hw
    have one : Tells width (reT width (oneW s)) [s] := by
      refine ⟨by simp, rfl, ?_, rfl, rfl⟩
      intro x hx
      simp at hx
      subst hx
      exact ⟨h1.1, h1.2, Int.le_refl _, Int.le_refl _⟩
    generalize hc : coal (l.map (fun s => reT width (oneW s))) = a at ih
    cases ih with
    | nil => exact .cons (l := []) one .nil
    | @cons w a g l ht h =>
      rw [comb]
      split
      · rename_i e
        have e0 : (reT width (oneW s)).t = startI s.t width := rfl
        rw [show s :: (g ++ l) = (s :: g) ++ l from rfl]
        refine .cons ⟨by simp, ?_, ?_, rfl, ?_⟩ h
        · show 1 + w.n = _
          rw [ht.2.1, List.length_cons]
          omega
        · intro x hx
          show startI s.t width ≤ x.t ∧ x.t - startI s.t width < width ∧ min s.v w.lo ≤ x.v ∧ x.v ≤ max s.v w.hi
          rcases List.mem_cons.1 hx with rfl | hx
          · exact ⟨h1.1, h1.2, Int.min_le_left _ _, Int.le_max_left _ _⟩
          · have := ht.2.2.1 x hx
            rw [← e0, e]
            exact ⟨this.1, this.2.1, Int.le_trans (Int.min_le_right _ _) this.2.2.1, Int.le_trans this.2.2.2 (Int.le_max_right _ _)⟩
        · show w.l = _
          rw [ht.2.2.2.2]
          have hg := ht.1
          cases g with
          | nil => exact absurd rfl hg
          | cons y g => rfl
      · exact .cons one (.cons ht h)
theorem told_sum {width : Int} {a : List Win} {l : List Smp} (h : Told width a l) : sumN a = l.length := by
  induction h with
  | nil => rfl
  | cons ht _ ih => rw [sumN, ih, ht.2.1, List.length_append]; omega

/-! ### Windows in form -/
def okW (w : Win) : Prop := 1 ≤ w.n ∧ w.n ≤ 1000000000 ∧ w.lo ≤ w.f ∧ w.lo ≤ w.l ∧ w.lo ≤ w.hi ∧ w.f ≤ w.hi ∧ w.l ≤ w.hi
def UpW (l : List Win) : Prop := l.Pairwise (fun x y => x.t < y.t)
theorem told_ok {width : Int} {a : List Win} {l : List Smp} (h : Told width a l) (hl : l.length ≤ 1000) : ∀ w ∈ a, okW w ∧ w.n ≤ l.length := by
  induction h with
  | nil => simp
  | @cons w a g l ht _ ih =>
    rw [List.length_append] at hl
    intro x hx
    rcases List.mem_cons.1 hx with rfl | hx
    · have hpos : 0 < g.length := by
        have := ht.1
        cases g with
        | nil => exact absurd rfl this
        | cons y g => simp
      have h0 := ht.2.2.1 _ (at_mem hpos)
      have h1 := ht.2.2.1 _ (at_mem (show g.length - 1 < g.length by omega))
      rw [← ht.2.2.2.1] at h0
      rw [← ht.2.2.2.2] at h1
      have := ht.2.1
      refine ⟨⟨by omega, by omega, by omega, by omega, by omega, by omega, by omega⟩, by rw [List.length_append]; omega⟩
    · have := ih (by omega) x hx
      exact ⟨this.1, by rw [List.length_append]; omega⟩
def NotDown (l : List Win) : Prop := l.Pairwise (fun x y => x.t ≤ y.t)
theorem coal_mem (l : List Win) : ∀ x ∈ coal l, ∃ y ∈ l, y.t = x.t := by
  induction l with
  | nil => simp [coal]
  | cons w l ih =>
    intro x hx
    rw [coal] at hx
    cases h : coal l with
    | nil => rw [h] at hx; simp [comb] at hx; subst hx; exact ⟨_, by simp, rfl⟩
    | cons y r =>
      rw [h] at hx ih
      rw [comb] at hx
      split at hx
      · rcases List.mem_cons.1 hx with rfl | hx
        · exact ⟨w, by simp, rfl⟩
        · obtain ⟨z, hz, e⟩ := ih x (by simp [hx])
          exact ⟨z, by simp [hz], e⟩
      · rcases List.mem_cons.1 hx with rfl | hx
        · exact ⟨_, by simp, rfl⟩
        · obtain ⟨z, hz, e⟩ := ih x hx
          exact ⟨z, by simp [hz], e⟩
theorem coal_up {l : List Win} (h : NotDown l) : UpW (coal l) := by
  induction l with
  | nil => exact List.Pairwise.nil
  | cons w l ih =>
    have h2 := List.pairwise_cons.1 h
    have h3 := ih h2.2
    rw [coal]
    have hm := coal_mem l
    cases hc : coal l with
    | nil => simp [comb, UpW]
    | cons y r =>
      rw [hc] at h3 hm
      have h4 := List.pairwise_cons.1 h3
      rw [comb]
      split
      · rename_i e
        exact List.pairwise_cons.2 ⟨fun z hz => by have := h4.1 z hz; show w.t < z.t; omega, h4.2⟩
      · rename_i e
        obtain ⟨z0, hz0, e0⟩ := hm y (by simp)
        have := h2.1 z0 hz0
        refine List.pairwise_cons.2 ⟨fun z hz => ?_, h3⟩
        rcases List.mem_cons.1 hz with rfl | hz
        · omega
        · have := h4.1 z hz; omega
theorem start_mono {a b w : Int} (hw : 0 < w) (h : a ≤ b) : startI a w ≤ startI b w := by
  have e : ∀ t, startI t w = w * (t / w) := fun t => by unfold startI; rw [Int.emod_def]; omega
  rw [e, e]
  exact Int.mul_le_mul_of_nonneg_left (Int.ediv_le_ediv hw h) (by omega)

/-! ### Joining -/
def joinUp : List Win → List Win → List Win
  | [], b => b
  | x :: a, [] => x :: a
  | x :: a, y :: b =>
    if x.t < y.t then x :: joinUp a (y :: b)
    else if y.t < x.t then y :: joinUp (x :: a) b
    else bothW x y :: joinUp a b
termination_by a b => a.length + b.length
theorem joinUp_nil (a : List Win) : joinUp a [] = a := by cases a <;> simp [joinUp]
theorem joinUp_glue : ∀ (a b : List Win), UpW a → UpW b → (∀ x ∈ a, ∀ y ∈ b, x.t ≤ y.t) → joinUp a b = glue a b
  | [], b, _, _, _ => by simp [joinUp, glue]
  | x :: a, [], _, _, _ => by
    rw [joinUp]
    have : ∀ a : List Win, glue a [] = a := fun a => by
      induction a with
      | nil => rfl
      | cons x a ih => rw [glue]; split
                       · rename_i e; subst e; rfl
                       · rw [ih]
    rw [this]
  | x :: a, y :: b, ha, hb, h => by
    have hxy := h x (by simp) y (by simp)
    have ha2 := List.pairwise_cons.1 ha
    have hb2 := List.pairwise_cons.1 hb
    rw [joinUp, glue]
    by_cases hlt : x.t < y.t
    · rw [if_pos hlt]
      by_cases hn : a = []
      · subst hn
        rw [if_pos rfl, comb, if_neg (by omega)]
        simp [joinUp]
      · rw [if_neg hn, joinUp_glue a (y :: b) ha2.2 hb (fun p hp q hq => h p (by simp [hp]) q hq)]
    · have e : x.t = y.t := by omega
      rw [if_neg hlt, if_neg (by omega)]
      have hn : a = [] := by
        cases a with
        | nil => rfl
        | cons z a =>
          have h1 := ha2.1 z (by simp)
          have h2 := h z (by simp) y (by simp)
          omega
      subst hn
      rw [if_pos rfl, comb, if_pos e]
      simp [joinUp]
theorem not_down {l : List Win} {width : Int} (hw : 0 < width) (h : NotDown l) : NotDown (l.map (reT width)) := by
  unfold NotDown
  rw [List.pairwise_map]
  exact h.imp (fun hxy => start_mono hw hxy)
theorem coal_join {l : List Win} {k : Nat} (h : NotDown l) : joinUp (coal (l.take k)) (coal (l.drop k)) = coal l := by
  have e : l = l.take k ++ l.drop k := (List.take_append_drop k l).symm
  have h' := h
  rw [e] at h'
  unfold NotDown at h'
  rw [List.pairwise_append] at h'
  rw [joinUp_glue _ _ (coal_up h'.1) (coal_up h'.2.1), ← coal_app, ← e]
  intro x hx y hy
  obtain ⟨p, hp, e1⟩ := coal_mem _ x hx
  obtain ⟨q, hq, e2⟩ := coal_mem _ y hy
  have := h'.2.2 p hp q hq
  omega
end Go.Proofs.Ytkcfhfplppdnnaa
