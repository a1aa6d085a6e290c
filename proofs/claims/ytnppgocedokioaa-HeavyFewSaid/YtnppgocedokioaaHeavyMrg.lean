/- Tallies that are merged, and tallies of few unlike keys: plain laws. No program in sight. -/
import Derived.Test.YtnppgocedokioaaHeavyLaw
namespace Go.Proofs.Ytnppgocedokioaa
open Go.RowKit

def insC : List Cn → Cn → List Cn
  | [], c => [c]
  | d :: l, c => if nlt d.k c.k then d :: insC l c else c :: d :: l
def bumpC (l : List Cn) (c : Cn) : List Cn := l.map fun d => if d.k = c.k then ⟨d.k, d.n + c.n⟩ else d
def putC (l : List Cn) (c : Cn) : List Cn := if hasH l c.k then bumpC l c else insC l c
def putAll (l m : List Cn) : List Cn := m.foldl putC l

theorem insC_len (l : List Cn) (c : Cn) : (insC l c).length = l.length + 1 := by
  induction l with
  | nil => rfl
  | cons d l ih => unfold insC; split <;> simp [ih]
theorem insC_mem (l : List Cn) (x : Cn) (c : Cn) : c ∈ insC l x ↔ c = x ∨ c ∈ l := by
  induction l with
  | nil => simp [insC]
  | cons z l ih =>
    unfold insC
    split
    · simp only [List.mem_cons, ih]; constructor
      · rintro (h | h | h) <;> simp [h]
      · rintro (h | h | h) <;> simp [h]
    · simp only [List.mem_cons]
theorem insC_sum (l : List Cn) (x : Cn) : sumH (insC l x) = sumH l + x.n := by
  induction l with
  | nil => show x.n + 0 = 0 + x.n; omega
  | cons c l ih =>
    unfold insC
    split
    · show c.n + sumH (insC l x) = c.n + sumH l + x.n
      rw [ih]; omega
    · show x.n + (c.n + sumH l) = c.n + sumH l + x.n
      omega
theorem insC_rise {l : List Cn} (h : RiseH l) {x : Cn} (hk : ¬ hasH l x.k) : RiseH (insC l x) := by
  induction l with
  | nil => exact List.pairwise_singleton _ _
  | cons z l ih =>
    have h1 := List.pairwise_cons.1 h
    unfold insC
    split
    · rename_i hz
      refine List.pairwise_cons.2 ⟨fun y hy => ?_, ih h1.2 (fun ⟨c, hc, e⟩ => hk ⟨c, List.mem_cons_of_mem _ hc, e⟩)⟩
      rcases (insC_mem _ _ _).1 hy with rfl | hy
      · exact hz
      · exact h1.1 y hy
    · rename_i hz
      have hzx : nlt x.k z.k := by
        rcases Decidable.em (nlt x.k z.k) with g | g
        · exact g
        · exact absurd ⟨z, List.mem_cons_self, nlt_tri hz g⟩ hk
      refine List.pairwise_cons.2 ⟨fun y hy => ?_, h⟩
      rcases List.mem_cons.1 hy with rfl | hy
      · exact hzx
      · exact nlt_trans hzx (h1.1 y hy)
theorem lookH_insC {l : List Cn} {x : Cn} (hk : ¬ hasH l x.k) (q : ByteArray) : lookH (insC l x) q = lookH l q + if x.k = q then x.n else 0 := by
  induction l with
  | nil => unfold insC lookH lookH; split <;> simp
  | cons c l ih =>
    have hc : c.k ≠ x.k := fun e => hk ⟨c, List.mem_cons_self, e⟩
    have ih := ih (fun ⟨y, hy, e⟩ => hk ⟨y, List.mem_cons_of_mem _ hy, e⟩)
    unfold insC
    split
    · rw [lookH, lookH, ih]
      split
      · rename_i e; rw [if_neg (fun g => hc (e.trans g.symm))]; omega
      · rfl
    · rw [lookH]
      split
      · rename_i e; subst e
        rw [lookH_none hk]; omega
      · omega
theorem bumpC_len (l : List Cn) (x : Cn) : (bumpC l x).length = l.length := by simp [bumpC]
theorem lookH_bumpC (l : List Cn) (x : Cn) (q : ByteArray) : lookH (bumpC l x) q = lookH l q + if hasH l x.k ∧ x.k = q then x.n else 0 := by
  induction l with
  | nil => show (0 : Int) = 0 + _; rw [if_neg (fun g => by obtain ⟨⟨c, hc, _⟩, _⟩ := g; cases hc)]; rfl
  | cons c l ih =>
    rw [show bumpC (c :: l) x = (if c.k = x.k then ⟨c.k, c.n + x.n⟩ else c) :: bumpC l x from rfl]
    rw [lookH, lookH]
    by_cases hq : c.k = q
    · subst hq
      by_cases hk : c.k = x.k
      · rw [if_pos hk, if_pos rfl, if_pos rfl, if_pos ⟨⟨c, List.mem_cons_self, hk⟩, hk.symm⟩]
      · rw [if_neg hk, if_pos rfl, if_pos rfl, if_neg (fun g => hk g.2.symm)]; omega
    · have e1 : (if c.k = x.k then (⟨c.k, c.n + x.n⟩ : Cn) else c).k = c.k := by split <;> rfl
      rw [e1, if_neg hq, if_neg hq, ih]
      by_cases hkq : x.k = q
      · by_cases hh : hasH l x.k
        · rw [if_pos ⟨hh, hkq⟩, if_pos ⟨(by obtain ⟨y, hy, e⟩ := hh; exact ⟨y, List.mem_cons_of_mem _ hy, e⟩), hkq⟩]
        · rw [if_neg (fun g => hh g.1), if_neg (fun g => by
            obtain ⟨⟨y, hy, e⟩, _⟩ := g
            rcases List.mem_cons.1 hy with rfl | hy
            · exact hq (e.trans hkq)
            · exact hh ⟨y, hy, e⟩)]
      · rw [if_neg (fun g => hkq g.2), if_neg (fun g => hkq g.2)]
theorem bumpC_mem {l : List Cn} {x c : Cn} (hx : 0 < x.n) (h : c ∈ bumpC l x) : ∃ d ∈ l, c.k = d.k ∧ d.n ≤ c.n := by
  unfold bumpC at h
  obtain ⟨d, hd, rfl⟩ := List.mem_map.1 h
  refine ⟨d, hd, ?_⟩
  split
  · exact ⟨rfl, by show d.n ≤ d.n + x.n; omega⟩
  · exact ⟨rfl, Int.le_refl _⟩
theorem bumpC_rise {l : List Cn} (h : RiseH l) (x : Cn) : RiseH (bumpC l x) := by
  unfold RiseH bumpC
  rw [List.pairwise_map]
  refine h.imp ?_
  intro a b hab
  have e1 : ∀ c : Cn, (if c.k = x.k then (⟨c.k, c.n + x.n⟩ : Cn) else c).k = c.k := fun c => by split <;> rfl
  rw [e1, e1]
  exact hab
theorem bumpC_sum {l : List Cn} (h : RiseH l) {x : Cn} (hk : hasH l x.k) : sumH (bumpC l x) = sumH l + x.n := by
  induction l with
  | nil => obtain ⟨c, hc, _⟩ := hk; cases hc
  | cons c l ih =>
    have h1 := List.pairwise_cons.1 h
    rw [show bumpC (c :: l) x = (if c.k = x.k then ⟨c.k, c.n + x.n⟩ else c) :: bumpC l x from rfl]
    by_cases hc : c.k = x.k
    · have e : bumpC l x = l := by
        unfold bumpC
        rw [List.map_congr_left (g := id)]
        · simp
        · intro y hy
          rw [if_neg (fun e => nlt_ne (h1.1 y hy) (hc.trans e.symm))]; rfl
      rw [e, if_pos hc]
      show c.n + x.n + sumH l = c.n + sumH l + x.n
      omega
    · rw [if_neg hc]
      have hk' : hasH l x.k := by
        obtain ⟨y, hy, e⟩ := hk
        rcases List.mem_cons.1 hy with rfl | hy
        · exact absurd e hc
        · exact ⟨y, hy, e⟩
      show c.n + sumH (bumpC l x) = c.n + sumH l + x.n
      rw [ih h1.2 hk']; omega
/-- rows as tallies bear them -/
structure OkL (l : List Cn) : Prop where
  each : ∀ c ∈ l, c.k.size ≤ 40 ∧ 0 < c.n
  rise : RiseH l
theorem OkL.put {l : List Cn} (h : OkL l) {x : Cn} (hx : x.k.size ≤ 40 ∧ 0 < x.n) : OkL (putC l x) ∧ sumH (putC l x) = sumH l + x.n ∧ (∀ q, lookH (putC l x) q = lookH l q + if x.k = q then x.n else 0) ∧ (putC l x).length ≤ l.length + 1 ∧ l.length ≤ (putC l x).length := by
  unfold putC
  by_cases hk : hasH l x.k
  · rw [if_pos hk]
    refine ⟨⟨fun c hc => ?_, bumpC_rise h.rise _⟩, bumpC_sum h.rise hk, fun q => ?_, by rw [bumpC_len]; omega, by rw [bumpC_len]; omega⟩
    · obtain ⟨d, hd, e1, e2⟩ := bumpC_mem hx.2 hc
      have := h.each d hd
      exact ⟨by rw [e1]; exact this.1, by omega⟩
    · rw [lookH_bumpC]
      by_cases e : x.k = q
      · rw [if_pos ⟨hk, e⟩, if_pos e]
      · rw [if_neg (fun g => e g.2), if_neg e]
  · rw [if_neg hk]
    refine ⟨⟨fun c hc => ?_, insC_rise h.rise hk⟩, insC_sum _ _, lookH_insC hk, by rw [insC_len]; omega, by rw [insC_len]; omega⟩
    rcases (insC_mem _ _ _).1 hc with rfl | hc
    · exact hx
    · exact h.each c hc
theorem OkL.tail {c : Cn} {l : List Cn} (h : OkL (c :: l)) : OkL l := ⟨fun x hx => h.each x (List.mem_cons_of_mem _ hx), (List.pairwise_cons.1 h.rise).2⟩
theorem OkL.putAll {m : List Cn} : ∀ {l : List Cn}, OkL l → OkL m → OkL (putAll l m) ∧ sumH (putAll l m) = sumH l + sumH m ∧ (∀ q, lookH (putAll l m) q = lookH l q + lookH m q) ∧ (Go.Proofs.Ytnppgocedokioaa.putAll l m).length ≤ l.length + m.length := by
  induction m with
  | nil => intro l h _; exact ⟨h, by show sumH l = sumH l + 0; omega, fun q => by show lookH l q = lookH l q + 0; omega, Nat.le_refl _⟩
  | cons c m ih =>
    intro l h hm
    obtain ⟨h1, h2, h3, h4, _⟩ := h.put (hm.each c List.mem_cons_self)
    obtain ⟨i1, i2, i3, i4⟩ := ih h1 hm.tail
    refine ⟨i1, ?_, fun q => ?_, ?_⟩
    · show sumH (Go.Proofs.Ytnppgocedokioaa.putAll (putC l c) m) = sumH l + (c.n + sumH m)
      rw [i2, h2]; omega
    · show lookH (Go.Proofs.Ytnppgocedokioaa.putAll (putC l c) m) q = lookH l q + lookH (c :: m) q
      rw [i3, h3, lookH]
      by_cases e : c.k = q
      · subst e
        have : ¬ hasH m c.k := fun ⟨x, hx, e⟩ => nlt_ne ((List.pairwise_cons.1 hm.rise).1 x hx) e.symm
        rw [if_pos rfl, if_pos rfl, lookH_none this]; omega
      · rw [if_neg e, if_neg e]; omega
    · show (Go.Proofs.Ytnppgocedokioaa.putAll (putC l c) m).length ≤ l.length + (m.length + 1)
      omega
/-- how much all are cut off -/
def cutS : List Int → Int → Int
  | [], _ => 0
  | x :: l, n => min x n + cutS l n
theorem cutS_perm {l m : List Int} (h : l.Perm m) (n : Int) : cutS l n = cutS m n := by
  induction h with
  | nil => rfl
  | cons x _ ih => rw [cutS, cutS, ih]
  | swap x y l => rw [cutS, cutS, cutS, cutS]; omega
  | trans _ _ h1 h2 => exact h1.trans h2
theorem cutS_less {l : List Cn} (h : ∀ c ∈ l, 0 < c.n) (n : Int) : sumH (lessH l n) = sumH l - cutS (l.map Cn.n) n := by
  induction l with
  | nil => rfl
  | cons c l ih =>
    have ih := ih (fun x hx => h x (List.mem_cons_of_mem _ hx))
    have hc := h c List.mem_cons_self
    have e1 : lessH (c :: l) n = if n < c.n then ⟨c.k, c.n - n⟩ :: lessH l n else lessH l n := by
      unfold lessH
      rw [List.filter_cons]
      by_cases g : n < c.n
      · rw [if_pos (decide_eq_true g), if_pos g]; rfl
      · rw [if_neg (by simpa using g), if_neg g]
    rw [e1, List.map_cons, cutS]
    have e2 : sumH (c :: l) = c.n + sumH l := rfl
    rw [e2]
    split
    · show c.n - n + sumH (lessH l n) = _
      rw [ih]; omega
    · rw [ih]; omega
theorem cutS_app (l m : List Int) (n : Int) : cutS (l ++ m) n = cutS l n + cutS m n := by
  induction l with
  | nil => show _ = 0 + _; rw [List.nil_append]; omega
  | cons x l ih => rw [List.cons_append, cutS, cutS, ih]; omega
theorem cutS_ge {l : List Int} {n : Int} (h : ∀ x ∈ l, n ≤ x) : cutS l n = l.length * n := by
  induction l with
  | nil => show (0 : Int) = ((0 : Nat) : Int) * n; rw [Int.natCast_zero, Int.zero_mul]
  | cons x l ih =>
    rw [cutS, ih (fun y hy => h y (List.mem_cons_of_mem _ hy)), List.length_cons]
    have := h x List.mem_cons_self
    rw [show min x n = n by omega, Int.natCast_add, Int.add_mul]; omega
theorem cutS_nonneg {l : List Int} {n : Int} (hn : 0 ≤ n) (h : ∀ x ∈ l, 0 ≤ x) : 0 ≤ cutS l n := by
  induction l with
  | nil => exact Int.le_refl _
  | cons x l ih =>
    rw [cutS]
    have h1 := ih (fun y hy => h y (List.mem_cons_of_mem _ hy))
    have := h x List.mem_cons_self
    omega
/-- what stands behind the K + 1 greatest is cut off as often -/
theorem cut_sorted {s : List Int} {K : Nat} (hs : s.Pairwise (· ≤ ·)) (hp : ∀ x ∈ s, 0 < x) (hl : K < s.length) :
    0 < at_ s (s.length - 1 - K) ∧ ((K : Int) + 1) * at_ s (s.length - 1 - K) ≤ cutS s (at_ s (s.length - 1 - K)) ∧ (s.filter fun x => decide (at_ s (s.length - 1 - K) < x)).length ≤ K := by
  have hi : s.length - 1 - K < s.length := by omega
  obtain ⟨n, hn⟩ : ∃ n, at_ s (s.length - 1 - K) = n := ⟨_, rfl⟩
  have hpos : 0 < n := by rw [← hn]; exact hp _ (at_mem hi)
  have hge : ∀ x ∈ s.drop (s.length - 1 - K), n ≤ x := by
    intro x hx
    obtain ⟨j, hj, rfl⟩ := List.getElem_of_mem hx
    rw [List.getElem_drop]
    rw [List.length_drop] at hj
    rcases Nat.eq_zero_or_pos j with h0 | h0
    · subst h0; rw [← hn, at_eq hi]; exact Int.le_refl _
    · rw [← hn, at_eq hi]
      exact List.pairwise_iff_getElem.1 hs _ _ hi (by omega) (by omega)
  have hle : ∀ x ∈ s.take (s.length - K), x ≤ n := by
    intro x hx
    obtain ⟨j, hj, rfl⟩ := List.getElem_of_mem hx
    rw [List.getElem_take]
    rw [List.length_take] at hj
    rcases Nat.lt_or_ge j (s.length - 1 - K) with h0 | h0
    · rw [← hn, at_eq hi]
      exact List.pairwise_iff_getElem.1 hs _ _ (by omega) hi h0
    · have : j = s.length - 1 - K := by omega
      subst this
      rw [← hn, at_eq hi]; exact Int.le_refl _
  rw [hn]
  refine ⟨hpos, ?_, ?_⟩
  · have e1 : cutS s n = cutS (s.take (s.length - 1 - K)) n + cutS (s.drop (s.length - 1 - K)) n := by rw [← cutS_app, List.take_append_drop]
    rw [e1, cutS_ge hge, List.length_drop]
    have h0 := cutS_nonneg (l := s.take (s.length - 1 - K)) (n := n) (by omega) (fun x hx => by have := hp x (List.mem_of_mem_take hx); omega)
    have e2 : ((s.length - (s.length - 1 - K) : Nat) : Int) = (K : Int) + 1 := by omega
    rw [e2]; omega
  · have e1 : s.filter (fun x => decide (n < x)) = (s.take (s.length - K)).filter (fun x => decide (n < x)) ++ (s.drop (s.length - K)).filter (fun x => decide (n < x)) := by rw [← List.filter_append, List.take_append_drop]
    rw [e1, List.filter_eq_nil_iff.2 (fun x hx => by have := hle x hx; simpa using this), List.nil_append]
    have := List.length_filter_le (fun x => decide (n < x)) (s.drop (s.length - K))
    rw [List.length_drop] at this
    omega
theorem OkHv.okL {s : Hv} (h : OkHv s) : OkL s.L := ⟨h.each, h.rise⟩
/-- the row of two tallies together -/
def mrgL (a b : Hv) : List Cn := putAll a.L b.L
/-- what is cut off of all where too many keys are kept -/
def mrgC (a b : Hv) : Int := if a.K < (mrgL a b).length then at_ (((mrgL a b).map Cn.n).mergeSort (fun x y => decide (x ≤ y))) ((mrgL a b).length - 1 - a.K.toNat) else 0
def mrgH (a b : Hv) : Hv × Int := if a.K ≠ b.K then (zeroHv, 1) else if 1000000000 < a.N + b.N then (zeroHv, 2) else
  (if a.K < (mrgL a b).length then ⟨a.K, lessH (mrgL a b) (mrgC a b), a.N + b.N, a.Off + b.Off + mrgC a b⟩ else ⟨a.K, mrgL a b, a.N + b.N, a.Off + b.Off⟩, 0)
theorem mrgL_ok {a b : Hv} (ha : OkHv a) (hb : OkHv b) : OkL (mrgL a b) ∧ sumH (mrgL a b) = sumH a.L + sumH b.L ∧ (∀ q, lookH (mrgL a b) q = lookH a.L q + lookH b.L q) ∧ (mrgL a b).length ≤ 128 := by
  obtain ⟨h1, h2, h3, h4⟩ := ha.okL.putAll hb.okL
  exact ⟨h1, h2, h3, by have := ha.len; have := ha.k2; have := hb.len; have := hb.k2; unfold mrgL; omega⟩
theorem mrgC_ok {a b : Hv} (ha : OkHv a) (hb : OkHv b) (hg : a.K < (mrgL a b).length) : 0 < mrgC a b ∧ (a.K + 1) * mrgC a b ≤ cutS ((mrgL a b).map Cn.n) (mrgC a b) ∧ ((lessH (mrgL a b) (mrgC a b)).length : Int) ≤ a.K := by
  obtain ⟨h1, h2, h3, h4⟩ := mrgL_ok ha hb
  have hk := ha.k1
  obtain ⟨K, hK⟩ := Int.eq_ofNat_of_zero_le (show 0 ≤ a.K by omega)
  have hp := List.mergeSort_perm ((mrgL a b).map Cn.n) (fun x y => decide (x ≤ y))
  have hsrt := List.pairwise_mergeSort (le := fun x y : Int => decide (x ≤ y)) (fun x y z => by simp; omega) (fun x y => by simp; omega) ((mrgL a b).map Cn.n)
  have hlen : (((mrgL a b).map Cn.n).mergeSort (fun x y => decide (x ≤ y))).length = (mrgL a b).length := by rw [List.length_mergeSort, List.length_map]
  have hc := cut_sorted (K := K) (hsrt.imp (fun h => of_decide_eq_true h)) (fun x hx => by
    obtain ⟨c, hc, rfl⟩ := List.mem_map.1 (hp.mem_iff.1 hx)
    exact (h1.each c hc).2) (by rw [hlen]; omega)
  rw [hlen] at hc
  have e : mrgC a b = at_ (((mrgL a b).map Cn.n).mergeSort (fun x y => decide (x ≤ y))) ((mrgL a b).length - 1 - K) := by unfold mrgC; rw [if_pos hg, hK, Int.toNat_natCast]
  rw [← e, cutS_perm hp] at hc
  refine ⟨hc.1, by rw [hK]; exact hc.2.1, ?_⟩
  have hf := (hp.filter (fun x => decide (mrgC a b < x))).length_eq
  rw [hf, List.filter_map, List.length_map] at hc
  unfold lessH
  rw [List.length_map]
  have := hc.2.2
  rw [hK]
  exact Int.ofNat_le.2 this
theorem okHv_mrg {a b : Hv} (ha : OkHv a) (hb : OkHv b) (hK : a.K = b.K) (hN : a.N + b.N ≤ 1000000000) : OkHv (mrgH a b).1 ∧ (mrgH a b).1.K = a.K ∧ (mrgH a b).1.N = a.N + b.N ∧ (mrgH a b).2 = 0 ∧
    ∀ q, lookH (mrgH a b).1.L q ≤ lookH a.L q + lookH b.L q ∧ lookH a.L q + lookH b.L q + a.Off + b.Off ≤ lookH (mrgH a b).1.L q + (mrgH a b).1.Off := by
  obtain ⟨h1, h2, h3, h4⟩ := mrgL_ok ha hb
  have ea := ha.sum
  have eb := hb.sum
  rw [← hK] at eb
  have a0 := ha.off
  have b0 := hb.off
  have an := ha.n0
  have bn := hb.n0
  have hk1 := ha.k1
  have hk2 := ha.k2
  unfold mrgH
  rw [if_neg (fun h => h hK), if_neg (by omega)]
  have ed : (a.K + 1) * (a.Off + b.Off) = (a.K + 1) * a.Off + (a.K + 1) * b.Off := Int.mul_add _ _ _
  by_cases hg : a.K < (mrgL a b).length
  · rw [if_pos hg]
    obtain ⟨c1, c2, c3⟩ := mrgC_ok ha hb hg
    have hs := cutS_less (fun c hc => (h1.each c hc).2) (mrgC a b)
    refine ⟨⟨hk1, hk2, c3, by simp only []; omega, by simp only []; omega, by simp only []; omega, fun c hc => ?_, lessH_rise h1.rise _, ?_⟩, rfl, rfl, rfl, fun q => ?_⟩
    · obtain ⟨d, hd, e1, e2, e3⟩ := lessH_mem hc
      have := h1.each d hd
      exact ⟨by rw [e1]; exact this.1, by omega⟩
    · simp only []
      rw [hs, h2, Int.mul_add, ed]
      omega
    · simp only []
      rw [lookH_less h1.rise (by omega), h3]
      have p1 := lookH_nonneg (fun c hc => (ha.each c hc).2) q
      have p2 := lookH_nonneg (fun c hc => (hb.each c hc).2) q
      omega
  · rw [if_neg hg]
    refine ⟨⟨hk1, hk2, by simp only []; omega, by simp only []; omega, by simp only []; omega, by simp only []; omega, h1.each, h1.rise, ?_⟩, rfl, rfl, rfl, fun q => ?_⟩
    · simp only []
      rw [h2, ed]; omega
    · simp only []
      rw [h3]; omega

theorem nodup_len {l : List ByteArray} : ∀ {D : List ByteArray}, l.Nodup → (∀ x ∈ l, x ∈ D) → l.length ≤ D.length := by
  induction l with
  | nil => intro D _ _; exact Nat.zero_le _
  | cons x l ih =>
    intro D h hs
    have h1 := List.nodup_cons.1 h
    have hx := hs x List.mem_cons_self
    obtain ⟨u, v, rfl⟩ := List.append_of_mem hx
    have h2 := ih (D := u ++ v) h1.2 (fun y hy => by
      have h3 := hs y (List.mem_cons_of_mem _ hy)
      rcases List.mem_append.1 h3 with h3 | h3
      · exact List.mem_append_left _ h3
      · rcases List.mem_cons.1 h3 with rfl | h3
        · exact absurd hy h1.1
        · exact List.mem_append_right _ h3)
    rw [List.length_append] at h2 ⊢
    rw [List.length_cons, List.length_cons]; omega
/-- of few unlike keys each is kept, and nothing is cut off -/
theorem few_law {K : Int} {l : List ByteArray} {D : List ByteArray} (hall : ∀ x ∈ l, x ∈ D) (hd : (D.length : Int) ≤ K) : ∀ {k : Nat}, k ≤ l.length → (talH K l k).2 = 0 → (talH K l k).1.Off = 0 ∧ ∀ c ∈ (talH K l k).1.L, c.k ∈ D
  | 0, _, h => by
    unfold talH emptyH at h ⊢
    split
    · rename_i g; rw [if_pos g] at h; cases h
    · exact ⟨rfl, fun c hc => by cases hc⟩
  | k + 1, hk, h => by
    unfold talH at h ⊢
    by_cases h0 : (talH K l k).2 = 0
    · rw [if_pos h0] at h ⊢
      obtain ⟨i1, i2, i3, i4⟩ := tal_ok h0
      obtain ⟨j1, j2⟩ := few_law hall hd (k := k) (by omega) h0
      have hx := hall _ (at_mem (show k < l.length by omega))
      obtain ⟨s, hs⟩ : ∃ s, (talH K l k).1 = s := ⟨_, rfl⟩
      obtain ⟨x, hxe⟩ : ∃ x, at_ l k = x := ⟨_, rfl⟩
      rw [hs] at i1 i2 i3 j1 j2 h ⊢
      rw [hxe] at hx h ⊢
      unfold addH at h ⊢
      by_cases h1 : 40 < x.size ∨ s.N = 1000000000
      · rw [if_pos h1] at h; cases h
      · rw [if_neg h1]
        simp only []
        by_cases c1 : hasH s.L x
        · have eL : stepL s x = bumpH s.L x := by unfold stepL; rw [if_pos c1]
          have eO : stepO s x = s.Off := by unfold stepO; rw [if_pos c1]
          rw [eL, eO]
          refine ⟨j1, fun c hc => ?_⟩
          obtain ⟨d, hd1, e1, _⟩ := bumpH_mem hc
          rw [e1]; exact j2 d hd1
        · have c2 : (s.L.length : Int) < s.K := by
            have hnd : (x :: s.L.map Cn.k).Nodup := by
              refine List.nodup_cons.2 ⟨fun hm => ?_, ?_⟩
              · obtain ⟨c, hc, e⟩ := List.mem_map.1 hm
                exact c1 ⟨c, hc, e⟩
              · unfold List.Nodup
                rw [List.pairwise_map]
                exact i1.rise.imp (fun h => nlt_ne h)
            have hsub : ∀ y ∈ x :: s.L.map Cn.k, y ∈ D := by
              intro y hy
              rcases List.mem_cons.1 hy with rfl | hy
              · exact hx
              · obtain ⟨c, hc, rfl⟩ := List.mem_map.1 hy
                exact j2 c hc
            have := nodup_len hnd hsub
            rw [List.length_cons, List.length_map] at this
            omega
          have eL : stepL s x = insH s.L x := by unfold stepL; rw [if_neg c1, if_pos c2]
          have eO : stepO s x = s.Off := by unfold stepO; rw [if_neg c1, if_pos c2]
          rw [eL, eO]
          refine ⟨j1, fun c hc => ?_⟩
          rcases (insH_mem _ _ _).1 hc with rfl | hc
          · exact hx
          · exact j2 c hc
    · rw [if_neg h0] at h; exact absurd h h0
end Go.Proofs.Ytnppgocedokioaa
