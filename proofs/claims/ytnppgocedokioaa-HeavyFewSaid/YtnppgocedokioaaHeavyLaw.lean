/- Tallies of what comes often: plain laws. No program in sight. -/
import Derived.Test.YtnppgocedokioaaNameLaw
namespace Go.Proofs.Ytnppgocedokioaa
open Go.RowKit

structure Cn where
  k : ByteArray
  n : Int
instance : Inhabited Cn := ⟨⟨⟨#[]⟩, 0⟩⟩
structure Hv where
  K : Int
  L : List Cn
  N : Int
  Off : Int
def zeroHv : Hv := ⟨0, [], 0, 0⟩
def RiseH (l : List Cn) : Prop := l.Pairwise (fun x y => nlt x.k y.k)
def sumH : List Cn → Int
  | [] => 0
  | c :: l => c.n + sumH l
def lookH : List Cn → ByteArray → Int
  | [], _ => 0
  | c :: l, k => if c.k = k then c.n else lookH l k
def hasH (l : List Cn) (k : ByteArray) : Prop := ∃ c ∈ l, c.k = k
instance (l : List Cn) (k : ByteArray) : Decidable (hasH l k) := inferInstanceAs (Decidable (∃ c ∈ l, c.k = k))
def insH : List Cn → ByteArray → List Cn
  | [], k => [⟨k, 1⟩]
  | c :: l, k => if nlt c.k k then c :: insH l k else ⟨k, 1⟩ :: c :: l
def bumpH (l : List Cn) (k : ByteArray) : List Cn := l.map fun c => if c.k = k then ⟨c.k, c.n + 1⟩ else c
def lessH (l : List Cn) (n : Int) : List Cn := (l.filter fun c => decide (n < c.n)).map fun c => ⟨c.k, c.n - n⟩
/-- a tally as the document wants it -/
structure OkHv (s : Hv) : Prop where
  k1 : 1 ≤ s.K
  k2 : s.K ≤ 64
  len : (s.L.length : Int) ≤ s.K
  n0 : 0 ≤ s.N
  n1 : s.N ≤ 1000000000
  off : 0 ≤ s.Off
  each : ∀ c ∈ s.L, c.k.size ≤ 40 ∧ 0 < c.n
  rise : RiseH s.L
  sum : (s.K + 1) * s.Off + sumH s.L ≤ s.N
theorem sumH_nonneg {l : List Cn} (h : ∀ c ∈ l, 0 < c.n) : 0 ≤ sumH l := by
  induction l with
  | nil => exact Int.le_refl _
  | cons c l ih =>
    have h1 := h c List.mem_cons_self
    have h2 := ih (fun x hx => h x (List.mem_cons_of_mem _ hx))
    show 0 ≤ c.n + sumH l
    omega
theorem sumH_ge {l : List Cn} (h : ∀ c ∈ l, 0 < c.n) : ∀ c ∈ l, c.n ≤ sumH l := by
  induction l with
  | nil => intro c hc; cases hc
  | cons x l ih =>
    intro c hc
    have h1 := h x List.mem_cons_self
    have h2 := sumH_nonneg (l := l) (fun y hy => h y (List.mem_cons_of_mem _ hy))
    show c.n ≤ x.n + sumH l
    rcases List.mem_cons.1 hc with rfl | hc
    · omega
    · have := ih (fun y hy => h y (List.mem_cons_of_mem _ hy)) c hc
      omega
theorem mul_ge {a b : Int} (ha : 0 ≤ a) (hb : 0 ≤ b) : b ≤ (a + 1) * b := by
  rw [Int.add_mul, Int.one_mul]
  have := Int.mul_nonneg ha hb
  omega
theorem OkHv.more {s : Hv} (h : OkHv s) : s.Off ≤ s.N ∧ (∀ c ∈ s.L, c.n ≤ s.N) ∧ 0 ≤ sumH s.L ∧ sumH s.L ≤ s.N ∧ 0 ≤ (s.K + 1) * s.Off ∧ (s.K + 1) * s.Off ≤ s.N := by
  have h1 := sumH_nonneg (fun c hc => (h.each c hc).2)
  have h2 := mul_ge (a := s.K) (by have := h.k1; omega) h.off
  have h3 := h.sum
  have h4 := h.off
  refine ⟨by omega, fun c hc => ?_, h1, by omega, by omega, by omega⟩
  have := sumH_ge (fun c hc => (h.each c hc).2) c hc
  omega
theorem insH_len (l : List Cn) (k : ByteArray) : (insH l k).length = l.length + 1 := by
  induction l with
  | nil => rfl
  | cons c l ih => unfold insH; split <;> simp [ih]
theorem insH_mem (l : List Cn) (k : ByteArray) (c : Cn) : c ∈ insH l k ↔ c = ⟨k, 1⟩ ∨ c ∈ l := by
  induction l with
  | nil => simp [insH]
  | cons z l ih =>
    unfold insH
    split
    · simp only [List.mem_cons, ih]; constructor
      · rintro (h | h | h) <;> simp [h]
      · rintro (h | h | h) <;> simp [h]
    · simp only [List.mem_cons]
theorem insH_sum (l : List Cn) (k : ByteArray) : sumH (insH l k) = sumH l + 1 := by
  induction l with
  | nil => rfl
  | cons c l ih =>
    unfold insH
    split
    · show c.n + sumH (insH l k) = c.n + sumH l + 1
      rw [ih]; omega
    · show 1 + (c.n + sumH l) = c.n + sumH l + 1
      omega
theorem insH_rise {l : List Cn} (h : RiseH l) {k : ByteArray} (hk : ¬ hasH l k) : RiseH (insH l k) := by
  induction l with
  | nil => exact List.pairwise_singleton _ _
  | cons z l ih =>
    have h1 := List.pairwise_cons.1 h
    unfold insH
    split
    · rename_i hz
      refine List.pairwise_cons.2 ⟨fun y hy => ?_, ih h1.2 (fun ⟨c, hc, e⟩ => hk ⟨c, List.mem_cons_of_mem _ hc, e⟩)⟩
      rcases (insH_mem _ _ _).1 hy with rfl | hy
      · exact hz
      · exact h1.1 y hy
    · rename_i hz
      have hzx : nlt k z.k := by
        rcases Decidable.em (nlt k z.k) with g | g
        · exact g
        · exact absurd ⟨z, List.mem_cons_self, nlt_tri hz g⟩ hk
      refine List.pairwise_cons.2 ⟨fun y hy => ?_, h⟩
      rcases List.mem_cons.1 hy with rfl | hy
      · exact hzx
      · exact nlt_trans hzx (h1.1 y hy)
theorem lookH_none {l : List Cn} {k : ByteArray} (h : ¬ hasH l k) : lookH l k = 0 := by
  induction l with
  | nil => rfl
  | cons c l ih =>
    unfold lookH
    rw [if_neg (fun e => h ⟨c, List.mem_cons_self, e⟩)]
    exact ih (fun ⟨x, hx, e⟩ => h ⟨x, List.mem_cons_of_mem _ hx, e⟩)
theorem lookH_some {l : List Cn} (h : RiseH l) {c : Cn} (hc : c ∈ l) : lookH l c.k = c.n := by
  induction l with
  | nil => cases hc
  | cons x l ih =>
    have h1 := List.pairwise_cons.1 h
    unfold lookH
    rcases List.mem_cons.1 hc with rfl | hc
    · rw [if_pos rfl]
    · rw [if_neg (nlt_ne (h1.1 c hc))]
      exact ih h1.2 hc
theorem lookH_nonneg {l : List Cn} (h : ∀ c ∈ l, 0 < c.n) (k : ByteArray) : 0 ≤ lookH l k := by
  induction l with
  | nil => exact Int.le_refl _
  | cons c l ih =>
    unfold lookH
    split
    · have := h c List.mem_cons_self; omega
    · exact ih (fun x hx => h x (List.mem_cons_of_mem _ hx))
theorem lookH_ins {l : List Cn} {k : ByteArray} (hk : ¬ hasH l k) (q : ByteArray) : lookH (insH l k) q = lookH l q + if k = q then 1 else 0 := by
  induction l with
  | nil => unfold insH lookH lookH; split <;> simp
  | cons c l ih =>
    have hc : c.k ≠ k := fun e => hk ⟨c, List.mem_cons_self, e⟩
    have ih := ih (fun ⟨x, hx, e⟩ => hk ⟨x, List.mem_cons_of_mem _ hx, e⟩)
    unfold insH
    split
    · rw [lookH, lookH, ih]
      split
      · rename_i e; rw [if_neg (fun g => hc (e.trans g.symm))]; omega
      · rfl
    · rw [lookH]
      simp only []
      split
      · rename_i e; subst e
        rw [lookH_none hk]; rfl
      · omega
theorem bumpH_len (l : List Cn) (k : ByteArray) : (bumpH l k).length = l.length := by simp [bumpH]
theorem lookH_bump (l : List Cn) (k q : ByteArray) : lookH (bumpH l k) q = lookH l q + if hasH l k ∧ k = q then 1 else 0 := by
  induction l with
  | nil => show (0 : Int) = 0 + _; rw [if_neg (fun g => by obtain ⟨⟨c, hc, _⟩, _⟩ := g; cases hc)]; rfl
  | cons c l ih =>
    rw [show bumpH (c :: l) k = (if c.k = k then ⟨c.k, c.n + 1⟩ else c) :: bumpH l k from rfl]
    rw [lookH, lookH]
    by_cases hq : c.k = q
    · subst hq
      by_cases hk : c.k = k
      · subst hk
        rw [if_pos rfl, if_pos rfl, if_pos rfl, if_pos ⟨⟨c, List.mem_cons_self, rfl⟩, rfl⟩]
      · rw [if_neg hk, if_pos rfl, if_pos rfl, if_neg (fun g => hk g.2.symm)]; omega
    · have e1 : (if c.k = k then (⟨c.k, c.n + 1⟩ : Cn) else c).k = c.k := by split <;> rfl
      rw [e1, if_neg hq, if_neg hq, ih]
      by_cases hkq : k = q
      · subst hkq
        by_cases hh : hasH l k
        · rw [if_pos ⟨hh, rfl⟩, if_pos ⟨(by obtain ⟨x, hx, e⟩ := hh; exact ⟨x, List.mem_cons_of_mem _ hx, e⟩), rfl⟩]
        · rw [if_neg (fun g => hh g.1), if_neg (fun g => by
            obtain ⟨⟨x, hx, e⟩, _⟩ := g
            rcases List.mem_cons.1 hx with rfl | hx
            · exact hq e
            · exact hh ⟨x, hx, e⟩)]
      · rw [if_neg (fun g => hkq g.2), if_neg (fun g => hkq g.2)]
theorem bumpH_mem {l : List Cn} {k : ByteArray} {c : Cn} (h : c ∈ bumpH l k) : ∃ d ∈ l, c.k = d.k ∧ d.n ≤ c.n := by
  unfold bumpH at h
  obtain ⟨d, hd, rfl⟩ := List.mem_map.1 h
  refine ⟨d, hd, ?_⟩
  split
  · exact ⟨rfl, by show d.n ≤ d.n + 1; omega⟩
  · exact ⟨rfl, Int.le_refl _⟩
theorem bumpH_rise {l : List Cn} (h : RiseH l) (k : ByteArray) : RiseH (bumpH l k) := by
  unfold RiseH bumpH
  rw [List.pairwise_map]
  refine h.imp ?_
  intro a b hab
  have e1 : ∀ c : Cn, (if c.k = k then (⟨c.k, c.n + 1⟩ : Cn) else c).k = c.k := fun c => by split <;> rfl
  rw [e1, e1]
  exact hab
theorem bumpH_sum {l : List Cn} (h : RiseH l) {k : ByteArray} (hk : hasH l k) : sumH (bumpH l k) = sumH l + 1 := by
  induction l with
  | nil => obtain ⟨c, hc, _⟩ := hk; cases hc
  | cons c l ih =>
    have h1 := List.pairwise_cons.1 h
    rw [show bumpH (c :: l) k = (if c.k = k then ⟨c.k, c.n + 1⟩ else c) :: bumpH l k from rfl]
    by_cases hc : c.k = k
    · subst hc
      have e : bumpH l c.k = l := by
        unfold bumpH
        rw [List.map_congr_left (g := id)]
        · simp
        · intro x hx
          rw [if_neg (fun e => nlt_ne (h1.1 x hx) e.symm)]; rfl
      rw [e, if_pos rfl]
      show c.n + 1 + sumH l = c.n + sumH l + 1
      omega
    · rw [if_neg hc]
      have hk' : hasH l k := by
        obtain ⟨x, hx, e⟩ := hk
        rcases List.mem_cons.1 hx with rfl | hx
        · exact absurd e hc
        · exact ⟨x, hx, e⟩
      show c.n + sumH (bumpH l k) = c.n + sumH l + 1
      rw [ih h1.2 hk']; omega
theorem lessH_len (l : List Cn) (n : Int) : (lessH l n).length ≤ l.length := by unfold lessH; rw [List.length_map]; exact List.length_filter_le _ _
theorem lessH_mem {l : List Cn} {n : Int} {c : Cn} (h : c ∈ lessH l n) : ∃ d ∈ l, c.k = d.k ∧ c.n = d.n - n ∧ n < d.n := by
  unfold lessH at h
  obtain ⟨d, hd, rfl⟩ := List.mem_map.1 h
  obtain ⟨h1, h2⟩ := List.mem_filter.1 hd
  exact ⟨d, h1, rfl, rfl, by simpa using h2⟩
theorem lessH_rise {l : List Cn} (h : RiseH l) (n : Int) : RiseH (lessH l n) := by
  unfold RiseH lessH
  rw [List.pairwise_map]
  exact (List.Pairwise.filter _ h)
theorem lookH_less {l : List Cn} (h : RiseH l) {n : Int} (hn : 0 ≤ n) (q : ByteArray) : lookH (lessH l n) q = max 0 (lookH l q - n) := by
  induction l with
  | nil => show (0 : Int) = max 0 (0 - n); omega
  | cons c l ih =>
    have h1 := List.pairwise_cons.1 h
    have ih := ih h1.2
    have e1 : lessH (c :: l) n = if n < c.n then ⟨c.k, c.n - n⟩ :: lessH l n else lessH l n := by
      unfold lessH
      rw [List.filter_cons]
      by_cases g : n < c.n
      · rw [if_pos (decide_eq_true g), if_pos g]; rfl
      · rw [if_neg (by simpa using g), if_neg g]
    rw [e1, lookH]
    by_cases hq : c.k = q
    · subst hq
      rw [if_pos rfl]
      split
      · rw [lookH, if_pos rfl]; simp only []; omega
      · have : ¬ hasH l c.k := fun ⟨x, hx, e⟩ => nlt_ne (h1.1 x hx) e.symm
        rw [ih, lookH_none this]; omega
    · rw [if_neg hq]
      split
      · rw [lookH, if_neg hq, ih]
      · exact ih
theorem lessH_sum1 {l : List Cn} (h : ∀ c ∈ l, 0 < c.n) : sumH (lessH l 1) = sumH l - l.length := by
  induction l with
  | nil => rfl
  | cons c l ih =>
    have ih := ih (fun x hx => h x (List.mem_cons_of_mem _ hx))
    have hc := h c List.mem_cons_self
    have e1 : lessH (c :: l) 1 = if 1 < c.n then ⟨c.k, c.n - 1⟩ :: lessH l 1 else lessH l 1 := by
      unfold lessH
      rw [List.filter_cons]
      by_cases g : 1 < c.n
      · rw [if_pos (decide_eq_true g), if_pos g]; rfl
      · rw [if_neg (by simpa using g), if_neg g]
    rw [e1]
    have e2 : sumH (c :: l) = c.n + sumH l := rfl
    rw [e2, List.length_cons]
    split
    · show c.n - 1 + sumH (lessH l 1) = _
      rw [ih]; omega
    · rw [ih]; omega

/-- a key that came -/
def stepL (s : Hv) (k : ByteArray) : List Cn := if hasH s.L k then bumpH s.L k else if (s.L.length : Int) < s.K then insH s.L k else lessH s.L 1
def stepO (s : Hv) (k : ByteArray) : Int := if hasH s.L k then s.Off else if (s.L.length : Int) < s.K then s.Off else s.Off + 1
def addH (s : Hv) (k : ByteArray) : Hv × Int := if 40 < k.size ∨ s.N = 1000000000 then (zeroHv, 2) else (⟨s.K, stepL s k, s.N + 1, stepO s k⟩, 0)
def emptyH (k : Int) : Hv × Int := if k < 1 ∨ 64 < k then (zeroHv, 1) else (⟨k, [], 0, 0⟩, 0)
def countH (s : Hv) (k : ByteArray) : Int × Int := if 40 < k.size then (0, 2) else (lookH s.L k, 0)
theorem okHv_empty {k : Int} (h : ¬ (k < 1 ∨ 64 < k)) : OkHv ⟨k, [], 0, 0⟩ := ⟨by simp only []; omega, by simp only []; omega, by simp only [List.length_nil]; omega, Int.le_refl _, (by show (0 : Int) ≤ 1000000000; decide), Int.le_refl _, (fun c hc => by cases hc), .nil, by show (k + 1) * 0 + 0 ≤ 0; omega⟩
theorem okHv_add {s : Hv} (h : OkHv s) {k : ByteArray} (hk : ¬ (40 < k.size ∨ s.N = 1000000000)) : OkHv ⟨s.K, stepL s k, s.N + 1, stepO s k⟩ := by
  obtain ⟨h1, h2, h3, h4, h5, h6, h7, h8, h9⟩ := h
  by_cases c1 : hasH s.L k
  · have eL : stepL s k = bumpH s.L k := by unfold stepL; rw [if_pos c1]
    have eO : stepO s k = s.Off := by unfold stepO; rw [if_pos c1]
    rw [eL, eO]
    refine ⟨h1, h2, by rw [bumpH_len]; exact h3, by simp only []; omega, by simp only []; omega, h6, ?_, bumpH_rise h8 _, by simp only []; rw [bumpH_sum h8 c1]; omega⟩
    intro c hc
    obtain ⟨d, hd, e1, e2⟩ := bumpH_mem hc
    have := h7 d hd
    exact ⟨by rw [e1]; exact this.1, by omega⟩
  by_cases c2 : (s.L.length : Int) < s.K
  · have eL : stepL s k = insH s.L k := by unfold stepL; rw [if_neg c1, if_pos c2]
    have eO : stepO s k = s.Off := by unfold stepO; rw [if_neg c1, if_pos c2]
    rw [eL, eO]
    refine ⟨h1, h2, by rw [insH_len]; simp only []; omega, by simp only []; omega, by simp only []; omega, h6, ?_, insH_rise h8 c1, by simp only []; rw [insH_sum]; omega⟩
    intro c hc
    rcases (insH_mem _ _ _).1 hc with rfl | hc
    · exact ⟨by simp only []; omega, (by show (0 : Int) < 1; decide)⟩
    · exact h7 c hc
  · have eL : stepL s k = lessH s.L 1 := by unfold stepL; rw [if_neg c1, if_neg c2]
    have eO : stepO s k = s.Off + 1 := by unfold stepO; rw [if_neg c1, if_neg c2]
    rw [eL, eO]
    refine ⟨h1, h2, by have := lessH_len s.L 1; simp only []; omega, by simp only []; omega, by simp only []; omega, by simp only []; omega, ?_, lessH_rise h8 _, ?_⟩
    · intro c hc
      obtain ⟨d, hd, e1, e2, e3⟩ := lessH_mem hc
      have := h7 d hd
      exact ⟨by rw [e1]; exact this.1, by omega⟩
    · simp only []
      rw [lessH_sum1 (fun c hc => (h7 c hc).2), Int.mul_add]
      omega
/-- how a key's number turns -/
theorem step_look {s : Hv} (h : OkHv s) (k q : ByteArray) : lookH (stepL s k) q ≤ lookH s.L q + (if k = q then 1 else 0) ∧ lookH s.L q + (if k = q then 1 else 0) + s.Off ≤ lookH (stepL s k) q + stepO s k := by
  have hn := lookH_nonneg (fun c hc => (h.each c hc).2) q
  unfold stepL stepO
  split
  · rename_i c1
    rw [lookH_bump]
    by_cases e : k = q
    · rw [if_pos ⟨c1, e⟩, if_pos e]; omega
    · rw [if_neg (fun g => e g.2), if_neg e]; omega
  · rename_i c1
    split
    · rw [lookH_ins c1]; omega
    · rw [lookH_less h.rise (by decide)]
      by_cases e : k = q
      · subst e
        rw [lookH_none c1, if_pos rfl]; omega
      · rw [if_neg e]; omega

def timesH (l : List ByteArray) (key : ByteArray) : Nat → Int
  | 0 => 0
  | k + 1 => timesH l key k + (if at_ l k = key then 1 else 0)
/-- keys that came, one by one: after the first of them -/
def talH (K : Int) (l : List ByteArray) : Nat → Hv × Int
  | 0 => emptyH K
  | k + 1 => if (talH K l k).2 = 0 then addH (talH K l k).1 (at_ l k) else talH K l k
theorem tal_ok {K : Int} {l : List ByteArray} : ∀ {k : Nat}, (talH K l k).2 = 0 → OkHv (talH K l k).1 ∧ (talH K l k).1.K = K ∧ (talH K l k).1.N = k ∧
    ∀ q, lookH (talH K l k).1.L q ≤ timesH l q k ∧ timesH l q k ≤ lookH (talH K l k).1.L q + (talH K l k).1.Off
  | 0, h => by
    unfold talH emptyH at h ⊢
    split
    · rename_i g; rw [if_pos g] at h; cases h
    · rename_i g
      exact ⟨okHv_empty g, rfl, rfl, fun q => ⟨Int.le_refl _, Int.le_refl _⟩⟩
  | k + 1, h => by
    unfold talH at h ⊢
    by_cases h0 : (talH K l k).2 = 0
    · rw [if_pos h0] at h ⊢
      obtain ⟨i1, i2, i3, i4⟩ := tal_ok h0
      unfold addH at h ⊢
      by_cases h1 : 40 < (at_ l k).size ∨ (talH K l k).1.N = 1000000000
      · rw [if_pos h1] at h; cases h
      · rw [if_neg h1]
        refine ⟨okHv_add i1 h1, i2, by simp only []; rw [i3]; omega, fun q => ?_⟩
        have h2 := step_look i1 (at_ l k) q
        have h3 := i4 q
        simp only []
        rw [timesH]
        omega
    · rw [if_neg h0] at h; exact absurd h h0
theorem tal_bad {K : Int} {l : List ByteArray} : ∀ {k : Nat}, k ≤ l.length → (talH K l k).2 ≠ 0 → K < 1 ∨ 64 < K ∨ (∃ x ∈ l, 40 < x.size) ∨ 1000000000 < (l.length : Int)
  | 0, _, h => by
    unfold talH emptyH at h
    split at h
    · rename_i g; omega
    · exact absurd rfl h
  | k + 1, hk, h => by
    unfold talH at h
    by_cases h0 : (talH K l k).2 = 0
    · rw [if_pos h0] at h
      obtain ⟨_, _, i3, _⟩ := tal_ok h0
      unfold addH at h
      split at h
      · rename_i h1
        rcases h1 with h1 | h1
        · exact .inr (.inr (.inl ⟨_, at_mem (by omega), h1⟩))
        · right; right; right; rw [i3] at h1; omega
      · exact absurd rfl h
    · rw [if_neg h0] at h
      exact tal_bad (by omega) h0
/-- never too few, and by no more than Off -/
theorem bound_law {K : Int} {l : List ByteArray} {k : Nat} (h : (talH K l k).2 = 0) (q : ByteArray) :
    lookH (talH K l k).1.L q ≤ timesH l q k ∧ timesH l q k ≤ lookH (talH K l k).1.L q + (talH K l k).1.Off ∧ (K + 1) * (talH K l k).1.Off ≤ k ∧ (talH K l k).1.N = k := by
  obtain ⟨i1, i2, i3, i4⟩ := tal_ok h
  have h6 := i1.more.2.2.2.2.2
  rw [i2, i3] at h6
  exact ⟨(i4 q).1, (i4 q).2, h6, i3⟩
/-- who comes often is kept -/
theorem often_law {K : Int} {l : List ByteArray} {k : Nat} (h : (talH K l k).2 = 0) (q : ByteArray) : timesH l q k * (K + 1) ≤ k ∨ 0 < lookH (talH K l k).1.L q := by
  obtain ⟨i1, i2, i3, i4⟩ := tal_ok h
  have hn := lookH_nonneg (fun c hc => (i1.each c hc).2) q
  have h6 := i1.more.2.2.2.2.2
  rcases Int.lt_or_le 0 (lookH (talH K l k).1.L q) with g | g
  · exact .inr g
  · left
    have e1 : timesH l q k ≤ (talH K l k).1.Off := by have := (i4 q).2; omega
    rw [i2, i3] at h6
    have h1 := i1.k1
    rw [i2] at h1
    have := Int.mul_le_mul_of_nonneg_right e1 (show 0 ≤ K + 1 by omega)
    rw [Int.mul_comm] at h6
    omega
end Go.Proofs.Ytnppgocedokioaa
