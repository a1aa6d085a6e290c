/- Sketches of two that are merged: plain laws. No program in sight. -/
import Derived.Test.YtkkadfjcnocopaaSkAll
import Derived.Test.YtkkadfjcnocopaaSkMerge
namespace Go.Proofs.Ytkkadfjcnocopaa
open Go.RowKit

/-- how many of these come to place q of part i -/
def hitsL (wd i q : Nat) : List ByteArray → Int
  | [] => 0
  | a :: l => (if q = qN a wd i then 1 else 0) + hitsL wd i q l
theorem hitsL_app (wd i q : Nat) (a b : List ByteArray) : hitsL wd i q (a ++ b) = hitsL wd i q a + hitsL wd i q b := by
  induction a with
  | nil => rw [List.nil_append, hitsL]; omega
  | cons x a ih => rw [List.cons_append, hitsL, hitsL, ih]; omega
theorem hitsL_le (wd i q : Nat) (l : List ByteArray) : 0 ≤ hitsL wd i q l ∧ hitsL wd i q l ≤ (l.length : Int) := by
  induction l with
  | nil => rw [hitsL]; simp
  | cons x l ih => rw [hitsL, List.length_cons]; split <;> omega
theorem allC_hits {l : List ByteArray} {wd d : Nat} (d3 : 1 ≤ wd) : ∀ k : Nat, k ≤ 17592186044416 → k ≤ l.length → ∀ i q, i < d → q < wd → at_ (allC l wd d k) (i * wd + q) = hitsL wd i q (l.take k)
  | 0, _, _, i, q, hi, hq => by
    have hlt : i * wd + q < d * wd := by have := Nat.mul_le_mul_right wd hi; rw [Nat.succ_mul] at this; omega
    rw [allC, at_eq (by rw [List.length_replicate]; exact hlt), List.getElem_replicate]; rfl
  | k + 1, hk, hkl, i, q, hi, hq => by
    have ih := allC_hits (l := l) (d := d) d3 k (by omega) (by omega) i q hi hq
    have e := addC_at (N := (k : Int)) (n := 1) (s := at_ l k) d3 (allC_len l wd d k) (by omega) (by omega) (allC_ok (l := l) (d := d) d3 k (by omega)) hi hq
    rw [allC, e, take_at (show k < l.length by omega), hitsL_app, ih, hitsL, hitsL]
    split <;> omega
theorem mrgC_at {C K : List Int} (hl : K.length = C.length) {M : Int} (h : ∀ j, j < C.length → -4611686018427387904 ≤ at_ C j + at_ K j ∧ at_ C j + at_ K j ≤ 4611686018427387904) : ∀ k, k ≤ C.length → ∀ j, j < C.length → at_ (mrgC C K k) j = if j < k then at_ C j + at_ K j else at_ C j
  | 0, _, j, _ => by rw [if_neg (by omega)]; rfl
  | k + 1, hk, j, hj => by
    have ih := mrgC_at hl (M := M) h k (by omega)
    have e1 := ih k (by omega)
    rw [if_neg (Nat.lt_irrefl _)] at e1
    have hb := h k (by omega)
    have e2 : wrap64 (at_ C k + at_ K k) = at_ C k + at_ K k := by unfold wrap64; omega
    rw [mrgC, e1, e2]
    by_cases hjk : j = k
    · subst hjk
      rw [if_pos (Nat.lt_succ_self _), at_eq (by rw [List.length_set, mrgC_len]; exact hj), List.getElem_set_self]
    · rw [at_eq (by rw [List.length_set, mrgC_len]; exact hj), List.getElem_set_ne (fun e => hjk e.symm), ← at_eq (by rw [mrgC_len]; exact hj), ih j hj]
      by_cases h1 : j < k
      · rw [if_pos h1, if_pos (by omega)]
      · rw [if_neg h1, if_neg (by omega)]
/-- sketches of two, merged, are that of both, whichever comes first -/
theorem merged {l m r : List ByteArray} {wd d : Nat} (d3 : 1 ≤ wd) (hl : l.length ≤ 17592186044416) (hm : m.length ≤ 17592186044416) (hrk : r.length ≤ 17592186044416)
    (hh : ∀ i q, hitsL wd i q r = hitsL wd i q l + hitsL wd i q m) : mrgC (allC l wd d l.length) (allC m wd d m.length) (d * wd) = allC r wd d r.length := by
  have e1 := fun i q (hi : i < d) (hq : q < wd) => allC_hits (l := l) (d := d) d3 l.length hl (Nat.le_refl _) i q hi hq
  have e2 := fun i q (hi : i < d) (hq : q < wd) => allC_hits (l := m) (d := d) d3 m.length hm (Nat.le_refl _) i q hi hq
  have e3 := fun i q (hi : i < d) (hq : q < wd) => allC_hits (l := r) (d := d) d3 r.length hrk (Nat.le_refl _) i q hi hq
  simp only [List.take_length] at e1 e2 e3
  have cut : ∀ j, j < d * wd → j / wd < d ∧ j % wd < wd ∧ j / wd * wd + j % wd = j := fun j hj =>
    ⟨Nat.div_lt_of_lt_mul (by rw [Nat.mul_comm]; exact hj), Nat.mod_lt j d3, by rw [Nat.mul_comm]; exact Nat.div_add_mod _ _⟩
  have hb : ∀ j, j < (allC l wd d l.length).length → -4611686018427387904 ≤ at_ (allC l wd d l.length) j + at_ (allC m wd d m.length) j ∧ at_ (allC l wd d l.length) j + at_ (allC m wd d m.length) j ≤ 4611686018427387904 := fun j hj => by
    rw [allC_len] at hj
    obtain ⟨hi, hq, hjj⟩ := cut j hj
    have a1 := e1 _ _ hi hq
    have a2 := e2 _ _ hi hq
    rw [hjj] at a1 a2
    have b1 := hitsL_le wd (j / wd) (j % wd) l
    have b2 := hitsL_le wd (j / wd) (j % wd) m
    rw [a1, a2]
    omega
  apply List.ext_getElem
  · rw [mrgC_len, allC_len, allC_len]
  · intro j h1 h2
    have hj : j < d * wd := by rw [mrgC_len, allC_len] at h1; exact h1
    obtain ⟨hi, hq, hjj⟩ := cut j hj
    rw [← at_eq h1, ← at_eq h2, mrgC_at (M := 0) (by rw [allC_len, allC_len]) hb (d * wd) (by rw [allC_len]; exact Nat.le_refl _) j (by rw [allC_len]; exact hj), if_pos hj]
    have a1 := e1 _ _ hi hq
    have a2 := e2 _ _ hi hq
    have a3 := e3 _ _ hi hq
    rw [hjj] at a1 a2 a3
    rw [a1, a2, a3, hh]
end Go.Proofs.Ytkkadfjcnocopaa
