/- What Range of package chunk answers: the samples of these times. Conditions: measures fit their kind. -/
import Derived.Test.YtmbpgenjjgepiaaDoorSmp
import Derived.Test.YtmbpgenjjgepiaaDoorSearch
import Derived.Lib.SliceRun
namespace Go.Proofs.YtmbpgenjjgepiaaDoor
open Go.RowKit

theorem elSmp : Elem Tryd.prog 22 40 2 16 := Elem.mk' (z := .agg #[.int .i64 0, .int .i64 0]) Tryd.underlying22 (by kernel_rfl) rfl (by decide)
def inS (a b : Int) (s : Smp) : Bool := decide (a ≤ s.t) && decide (s.t < b)
def rangeN (l : List Smp) (a b : Int) : List Smp := if chkS l ≠ 0 then [] else l.filter (inS a b)

set_option maxRecDepth 1000000 in
set_option maxHeartbeats 1000000 in
theorem range1_any (A : Option Addr) (c : Nat) (l : List Smp) (x : Int) (g gx i : Nat) (hi : i < l.length) (w : World) (h : Has w w.heap.size A (smpCs l)) (h1 : w.cell? ⟨g, 0, none⟩ = some (.slice A l.length c)) (h2 : w.cell? ⟨gx, 0, none⟩ = some (.int .i64 x)) :
    Calls Tryd.prog 21 #[.int .i64 i, .pointer (some ⟨g, 0, none⟩), .pointer (some ⟨gx, 0, none⟩)] w (R1 (.bool (decide (x ≤ (at_ l i).t))) (Drawn w)) := by
  obtain ⟨ad, rfl, _, c1⟩ := h.at (smpCs_t hi)
  have q1 : (0 : Int) ≤ (i : Int) := by omega
  have q2 : (i : Int) < (l.length : Int) := by omega
  go_enter Tryd.func21, Tryd.ntmps21
  go_wp2
  go_quiet (fail)
  go_wp2
  go_ret
  exact R1.mk rfl ⟨_, rfl⟩
set_option maxRecDepth 1000000 in
set_option maxHeartbeats 1000000 in
theorem range2_any (A : Option Addr) (c : Nat) (l : List Smp) (x : Int) (g gx i : Nat) (hi : i < l.length) (w : World) (h : Has w w.heap.size A (smpCs l)) (h1 : w.cell? ⟨g, 0, none⟩ = some (.slice A l.length c)) (h2 : w.cell? ⟨gx, 0, none⟩ = some (.int .i64 x)) :
    Calls Tryd.prog 22 #[.int .i64 i, .pointer (some ⟨g, 0, none⟩), .pointer (some ⟨gx, 0, none⟩)] w (R1 (.bool (decide (x ≤ (at_ l i).t))) (Drawn w)) := by
  obtain ⟨ad, rfl, _, c1⟩ := h.at (smpCs_t hi)
  have q1 : (0 : Int) ≤ (i : Int) := by omega
  have q2 : (i : Int) < (l.length : Int) := by omega
  go_enter Tryd.func22, Tryd.ntmps22
  go_wp2
  go_quiet (fail)
  go_wp2
  go_ret
  exact R1.mk rfl ⟨_, rfl⟩

theorem filter_idx {p : Smp → Bool} : ∀ (l : List Smp) (i k : Nat), (∀ j, j < l.length → p (at_ l j) = decide (i ≤ j ∧ j < k)) → l.filter p = (l.drop i).take (k - i)
  | [], i, k, _ => by simp
  | s :: l, i, k, h => by
    have h0 := h 0 (by simp)
    have e0 : at_ (s :: l) 0 = s := rfl
    have es : ∀ j, at_ (s :: l) (j + 1) = at_ l j := fun j => rfl
    rw [e0] at h0
    cases i with
    | zero =>
      cases k with
      | zero =>
        have := filter_idx (p := p) l 0 0 (fun j hj => by have := h (j + 1) (by simp; omega); rw [es] at this; rw [this]; simp)
        rw [List.filter_cons, h0, this]
        simp
      | succ k =>
        have := filter_idx (p := p) l 0 k (fun j hj => by have := h (j + 1) (by simp; omega); rw [es] at this; rw [this]; simp)
        rw [List.filter_cons, h0, this]
        simp
    | succ i =>
      have := filter_idx (p := p) l i (k - 1) (fun j hj => by
        have := h (j + 1) (by simp; omega)
        rw [es] at this
        rw [this]
        by_cases h1 : i ≤ j <;> by_cases h2 : j + 1 < k <;> simp [h1, h2] <;> omega)
      rw [List.filter_cons, h0, this]
      simp
      congr 1
      omega
theorem filter_none {l : List Smp} {a b : Int} {i k : Nat} (hi : Parts (fun j => decide (a ≤ (at_ l j).t)) l.length i) (hk : Parts (fun j => decide (b ≤ (at_ l j).t)) l.length k) :
    l.filter (inS a b) = (l.drop i).take (k - i) := by
  refine filter_idx l i k (fun j hj => ?_)
  unfold inS
  have e1 : decide (a ≤ (at_ l j).t) = decide (i ≤ j) := by
    rcases Nat.lt_or_ge j i with h | h
    · rw [show decide (i ≤ j) = false by rw [decide_eq_false_iff_not]; omega]; exact hi.2.1 j h
    · rw [show decide (i ≤ j) = true by rw [decide_eq_true_iff]; exact h]; exact hi.2.2 j h hj
  have e2 : decide ((at_ l j).t < b) = decide (j < k) := by
    rcases Nat.lt_or_ge j k with h | h
    · have := hk.2.1 j h
      rw [decide_eq_false_iff_not] at this
      rw [show decide (j < k) = true by rw [decide_eq_true_iff]; exact h, decide_eq_true_iff]; omega
    · have := hk.2.2 j h hj
      rw [decide_eq_true_iff] at this
      rw [show decide (j < k) = false by rw [decide_eq_false_iff_not]; omega, decide_eq_false_iff_not]; omega
  rw [e1, e2, Bool.decide_and]
theorem ord_mono {l : List Smp} (h : ordUp l (l.length - 1) = true) {i j : Nat} (hij : i ≤ j) (hj : j < l.length) : (at_ l i).t ≤ (at_ l j).t := by
  induction hij with
  | refl => exact Int.le_refl _
  | step hm ih =>
    have h1 := ih (by omega)
    rename_i m
    have h3 := ordUp_step h (show m < l.length - 1 by omega)
    exact Int.le_trans h1 (Int.le_of_lt h3)
def RangeP (l : List Smp) (a b : Int) (w : World) (v : Value) (w' : World) : Prop :=
  ∃ A c, v = .tuple #[.slice A (rangeN l a b).length c, .int .i64 (chkS l)] ∧ w'.ownsRow w.heap.size 40 2 (.slice A (rangeN l a b).length c) (rangeN l a b).length (smpCs (rangeN l a b)) ∧ Below w.heap.size w w'

set_option maxRecDepth 1000000 in
set_option maxHeartbeats 2000000 in
theorem range_any (A : Option Addr) (c : Nat) (l : List Smp) (hlc : l.length ≤ c) (hc : c ≤ maxLen) (a b : Int) (w : World) (h : Has w w.heap.size A (smpCs l)) :
    Calls Tryd.prog 10 #[.slice A l.length c, .int .i64 a, .int .i64 b] w (RV (RangeP l a b w)) := by
  have hl : l.length ≤ maxLen := by omega
  have hc2 := hc
  unfold maxLen at hc2
  have hb0 : Below w.heap.size w (((w.alloc (.cells #[.slice A l.length c] 22)).alloc (.cells #[.int .i64 a] 2)).alloc (.cells #[.int .i64 b] 2)) := (((Below.refl _ _).alloc (Nat.le_refl _) _).alloc (by simp) _).alloc (by simp; omega) _
  by_cases hk : chkS l = 0
  · obtain ⟨h1000, hord⟩ := chkS_ok hk
    have Hk := Lib.hid hk; clear hk
    have hma : ∀ i j, i ≤ j → j < l.length → decide (a ≤ (at_ l i).t) = true → decide (a ≤ (at_ l j).t) = true := fun i j h1 h2 h3 => by
      rw [decide_eq_true_iff] at *; have := ord_mono hord h1 h2; omega
    have hmb : ∀ i j, i ≤ j → j < l.length → decide (b ≤ (at_ l i).t) = true → decide (b ≤ (at_ l j).t) = true := fun i j h1 h2 h3 => by
      rw [decide_eq_true_iff] at *; have := ord_mono hord h1 h2; omega
    have Hma := Lib.hid hma; clear hma
    have Hmb := Lib.hid hmb; clear hmb
    have b0 : Blk (((w.alloc (.cells #[.slice A l.length c] 22)).alloc (.cells #[.int .i64 a] 2)).alloc (.cells #[.int .i64 b] 2)) w.heap.size 22 #[.slice A l.length c] := ((Blk.new _ _ _).alloc _).alloc _
    have b1 : Blk (((w.alloc (.cells #[.slice A l.length c] 22)).alloc (.cells #[.int .i64 a] 2)).alloc (.cells #[.int .i64 b] 2)) (w.heap.size + 1) 2 #[.int .i64 a] := by
      have := (Blk.new (w.alloc (.cells #[.slice A l.length c] 22)) 2 #[.int .i64 a]).alloc (.cells #[.int .i64 b] 2)
      simpa using this
    have b2 : Blk (((w.alloc (.cells #[.slice A l.length c] 22)).alloc (.cells #[.int .i64 a] 2)).alloc (.cells #[.int .i64 b] 2)) (w.heap.size + 2) 2 #[.int .i64 b] := by
      have := (Blk.new ((w.alloc (.cells #[.slice A l.length c] 22)).alloc (.cells #[.int .i64 a] 2)) 2 #[.int .i64 b])
      simpa using this
    have c0 := b0.cell 0
    have c1 := b1.cell 0
    have c2 := b2.cell 0
    have h3 := h.next hb0
    have C0 := Lib.hid c0; clear c0
    have C1 := Lib.hid c1; clear c1
    have C2 := Lib.hid c2; clear c2
    go_enter Tryd.func10, Tryd.ntmps10
    go_wp2_with fail
    refine (scheck_any A c l hl _ (by exact h3)).mono ?_
    rintro e w1 ⟨rfl, n1, rfl⟩
    rw [Hk.out]
    go_wp2_with fail
    refine (search_any 21 (fun _ _ => by kernel_rfl) _ _ (fun i => decide (a ≤ (at_ l i).t)) l.length (by omega) Hma.out _ (by intro i hi m; exact range1_any A c l a _ _ i hi _ (by exact h3) (by exact C0.out) (by exact C1.out))).mono ?_
    rintro e w2 ⟨v, rfl, ⟨i, rfl, hi⟩, n2, rfl⟩
    go_wp2_with fail
    refine (search_any 22 (fun _ _ => by kernel_rfl) _ _ (fun i => decide (b ≤ (at_ l i).t)) l.length (by omega) Hmb.out _ (by intro i hi m; exact range2_any A c l b _ _ i hi _ (by exact h3) (by exact C0.out) (by exact C2.out))).mono ?_
    rintro e w2 ⟨v, rfl, ⟨k, rfl, hkp⟩, n3, rfl⟩
    have E := Lib.hid (show rangeN l a b = (l.drop i).take (k - i) by unfold rangeN; rw [if_neg (by rw [Hk.out]; simp)]; exact filter_none hi hkp)
    have hi1 := hi.1
    have hk1 := hkp.1
    by_cases hik : (k : Int) ≤ (i : Int)
    · have E0 := Lib.hid (show rangeN l a b = [] by rw [E.out, show k - i = 0 by omega]; simp)
      go_wp2_with fail
      go_ret2
      refine RV.mk ⟨none, 0, by rw [E0.out, Hk.out]; rfl, ?_, below_drewN hb0 _⟩
      rw [E0.out]
      exact World.ownsRow_nil _ _ _ _
    · have hlen : Hid ((rangeN l a b).length = k - i) := Lib.hid (by rw [E.out, List.length_take, List.length_drop]; omega)
      have q1 : (i : Int) ≤ (k : Int) := by omega
      have q2 : (k : Int) ≤ (c : Int) := by omega
      obtain ⟨ad, rfl, _, _⟩ := h.at (smpCs_t (show i < l.length by omega))
      have hcut := (h3.cut (k := i) (size := 2) (cap := c) (n := l.length) (by rw [smpCs_len]) hlc).take ((k - i) * 2)
      rw [if_neg (by omega), smpCs_drop, smpCs_take, ← E.out] at hcut
      go_wp2_with (at_builtin; refine wpList_spread rfl _ _ _ rfl elSmp rfl (World.ownsRow_nil _ w.heap.size _ _) rfl (by exact hcut) ?_ ?c1 ?c2 ?c3 ?c4 ?c5; intro A' c' w4 hown4 hgrow hb4)
      case c1 => rw [smpCs_len, hlen.out]
      case c2 => exact smpCs_one _
      case c3 => omega
      case c4 => unfold maxLen; omega
      case c5 => exact hb0.size
      go_ret2
      rw [Nat.zero_add, List.nil_append] at hown4
      refine RV.mk ⟨A', c', by rw [hlen.out, Hk.out]; rfl, ?_, (below_drewN hb0 _).trans hb4⟩
      rw [hlen.out]
      exact hown4
  · obtain ⟨z, hz⟩ : ∃ z, chkS l = z := ⟨_, rfl⟩
    have hz0 : (z != 0) = true := by rw [bne_iff_ne, ← hz]; exact hk
    have Hz := Lib.hid hz; clear hz hk
    have E0 := Lib.hid (show rangeN l a b = [] by unfold rangeN; rw [if_pos (by rw [Hz.out]; simpa using hz0)])
    go_enter Tryd.func10, Tryd.ntmps10
    go_wp2_with fail
    refine (scheck_any A c l hl _ (by exact h.next hb0)).mono ?_
    rintro e w1 ⟨rfl, n1, rfl⟩
    rw [Hz.out]
    go_wp2_with fail
    go_ret2
    refine RV.mk ⟨none, 0, by rw [E0.out, Hz.out]; rfl, ?_, below_drewN hb0 _⟩
    rw [E0.out]
    exact World.ownsRow_nil _ _ _ _
end Go.Proofs.YtmbpgenjjgepiaaDoor
