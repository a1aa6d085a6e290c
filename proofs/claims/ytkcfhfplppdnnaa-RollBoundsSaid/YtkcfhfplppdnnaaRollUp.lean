/- What Roll of package roll computes, and the laws' helper rolls. Conditions: numbers fit their kinds. -/
import Derived.Test.YtkcfhfplppdnnaaFold
import Derived.Test.YtkcfhfplppdnnaaTwo
namespace Go.Proofs.Ytkcfhfplppdnnaa
open Go.RowKit

def rollN (l : List Smp) (width : Int) : List Win × Int := if chkS l ≠ 0 then ([], chkS l) else foldN (l.map oneW) width

theorem fold_any' (A : Option Addr) (n c : Nat) (l : List Win) (hnl : l.length = n) (hl : n ≤ 1000) (hn : ∀ x ∈ l, 0 ≤ x.n ∧ x.n ≤ 1000000000) (width : Int) (r : List Win × Int) (hr : foldN l width = r) (w : World) (hA : Has w w.heap.size A (winCs l)) :
    Calls Try.prog 45 #[.slice A n c, .int .i64 width] w (RV (WinsP r w)) := by
  subst hnl hr
  exact fold_any A c l hl hn width w hA

set_option maxRecDepth 1000000 in
set_option maxHeartbeats 2000000 in
theorem roll_any (A : Option Addr) (n c : Nat) (l : List Smp) (hn : l.length = n) (hl : n ≤ maxLen) (width : Int) (r : List Win × Int) (hr : rollN l width = r) (w : World) (h : Has w w.heap.size A (smpCs l)) :
    Calls Try.prog 16 #[.slice A n c, .int .i64 width] w (RV (WinsP r w)) := by
  subst hn
  have Hr := Lib.hid hr; clear hr
  by_cases hc : chkS l = 0
  case neg =>
    have E := Lib.hid (show r = ([], chkS l) by rw [← Hr.out]; unfold rollN; rw [if_pos hc])
    obtain ⟨z, hz⟩ : ∃ z, chkS l = z := ⟨_, rfl⟩
    have hz0 : (z != 0) = true := by rw [bne_iff_ne, ← hz]; exact hc
    have Hz := Lib.hid hz; clear hz hc
    go_enter Try.func16, Try.ntmps16
    go_wp2_with fail
    refine (scheck_any A c l hl _ (by exact h)).mono ?_
    rintro e w1 ⟨rfl, n1, rfl⟩
    rw [Hz.out]
    go_wp2_with fail
    go_ret2
    rw [E.out]
    exact RV.mk ⟨none, 0, by rw [Hz.out]; rfl, ⟨rfl, .inl ⟨rfl, rfl⟩⟩, below_drewN (Below.refl _ _) _⟩
  case pos =>
    have hlen := (chkS_ok hc).1
    have E := Lib.hid (show foldN (l.map oneW) width = r by rw [← Hr.out]; unfold rollN; rw [if_neg (by rw [hc]; simp)])
    have Hc := Lib.hid hc; clear hc
    go_enter Try.func16, Try.ntmps16
    go_wp2_with fail
    refine (scheck_any A c l hl _ (by exact h)).mono ?_
    rintro e w1 ⟨rfl, n1, rfl⟩
    rw [Hc.out]
    go_wp2_with fail
    go_loopw [7, 17] (fun v i wr => ∃ (k : Nat) (O : Option Addr) (e : Nat), k ≤ l.length ∧ i = .int .i64 (k : Nat) ∧ v = .slice O k e ∧ wr.ownsRow w.heap.size 29 7 (.slice O k e) k (winCs ((l.take k).map oneW)) ∧ Below w.heap.size w wr) (fun _ i _ => l.length + 5 - (intOf i).toNat)
    case atStart => exact ⟨0, none, 0, by omega, rfl, rfl, ⟨rfl, .inl ⟨rfl, rfl⟩⟩, below_drewN (Below.refl _ _) _⟩
    case round =>
      obtain ⟨k, O, e, hk, rfl, rfl, hown, hbr⟩ := hrel
      have hbs := hbr.size
      by_cases hlt : (k : Int) < (l.length : Int)
      · obtain ⟨ad, rfl, _, c1⟩ := (h.below hbr).at (smpCs_t (show k < l.length by omega))
        obtain ⟨ad', e', _, c2⟩ := (h.below hbr).at (smpCs_v (show k < l.length by omega))
        injection e' with e'
        subst e'
        have c2 := cell_off c2 (by decide)
        have Hown := Lib.hid hown; clear hown
        go_wp2_with (at_builtin; refine wpList_append1 rfl _ _ _ rfl elWin rfl (by exact (Hown.out.alloc _)) (by rfl) (by simp) rfl ?_ ?c1 ?c2 ?c3 ?c4; intro A' c' w6 hown6 hgrow hb6)
        case c1 => first | exact ⟨rfl, rfl, rfl⟩ | (intro u hu; simp at hu; rcases hu with rfl | rfl | rfl | rfl | rfl | rfl | rfl <;> rfl)
        case c2 => omega
        case c3 => unfold maxLen; omega
        case c4 => simp; omega
        have hown7 := Lib.hid hown6; clear hown6
        refine ⟨⟨k + 1, A', c', by omega, by go_num, rfl, by rw [take_at (by omega), List.map_append, winCs_app]; exact hown7.out, (hbr.alloc hbs _).trans hb6⟩, by simp [intOf]; omega⟩
      · obtain rfl : k = l.length := by omega
        rw [List.take_length] at hown
        have Hw := Lib.hid (Has.of_own hown); clear hown
        go_wp2_with fail
        refine (fold_any' O _ e (l.map oneW) (by simp) hlen (by intro x hx; simp at hx; obtain ⟨s, _, rfl⟩ := hx; exact ⟨(show (0 : Int) ≤ 1 by decide), (show (1 : Int) ≤ 1000000000 by decide)⟩) width r (by exact E.out) _ (by exact Hw.out)).mono ?_
        rintro e2 w2 ⟨v, rfl, A2, c2, rfl, ho2, hb2⟩
        go_wp2_with fail
        go_ret2
        exact RV.mk ⟨A2, c2, rfl, own_less ho2 hbs, bnext hbr hb2⟩

theorem lastN_le {l : List Win} (h : ∀ x ∈ l, 0 ≤ x.n) : lastN l ≤ sumN l ∧ 0 ≤ sumN l := by
  induction l with
  | nil => exact ⟨by decide, by decide⟩
  | cons x l ih =>
    have h1 := ih (fun y hy => h y (by simp [hy]))
    have h2 := h x (by simp)
    refine ⟨?_, by rw [sumN]; omega⟩
    rw [sumN]
    cases l with
    | nil => show x.n ≤ _; simp [sumN]
    | cons y l =>
      have e : lastN (x :: y :: l) = lastN (y :: l) := rfl
      rw [e]
      omega
theorem coal_n {l : List Win} (h : ∀ x ∈ l, 0 ≤ x.n) : ∀ x ∈ coal l, 0 ≤ x.n := by
  induction l with
  | nil => simp [coal]
  | cons w l ih =>
    have h1 := ih (fun y hy => h y (by simp [hy]))
    have h2 := h w (by simp)
    rw [coal]
    cases hc : coal l with
    | nil => simp [comb]; exact h2
    | cons y r =>
      rw [hc] at h1
      rw [comb]
      have h3 := h1 y (by simp)
      split
      · intro z hz
        rcases List.mem_cons.1 hz with rfl | hz
        · show 0 ≤ w.n + y.n; omega
        · exact h1 z (by simp [hz])
      · intro z hz
        rcases List.mem_cons.1 hz with rfl | hz
        · exact h2
        · exact h1 z hz
theorem sumN_take {l : List Win} (h : ∀ x ∈ l, 0 ≤ x.n) (k : Nat) : sumN (l.take k) ≤ sumN l := by
  induction l generalizing k with
  | nil => simp
  | cons x l ih =>
    cases k with
    | zero =>
      have := (lastN_le h).2
      exact this
    | succ k =>
      rw [List.take_succ_cons, sumN, sumN]
      have := ih (fun y hy => h y (by simp [hy])) k
      omega
/-- no window grows too large -/
theorem not_big {l : List Win} (h : ∀ x ∈ l, 0 ≤ x.n) (hs : sumN l ≤ 1000000000) : (List.range l.length).any (bigAt l) = false := by
  rw [List.any_eq_false]
  intro k _
  unfold bigAt
  rw [decide_eq_true_iff]
  have h1 : ∀ x ∈ l.take (k + 1), 0 ≤ x.n := fun x hx => h x (List.mem_of_mem_take hx)
  have h2 := (lastN_le (coal_n h1)).1
  rw [sumN_coal] at h2
  have h3 := sumN_take h (k + 1)
  omega
theorem sumN_ones (l : List Smp) : sumN (l.map oneW) = l.length := by
  induction l with
  | nil => rfl
  | cons s l ih => rw [List.map_cons, sumN, ih, List.length_cons]; show 1 + _ = _; omega
theorem sumN_reT (width : Int) (l : List Win) : sumN (l.map (reT width)) = sumN l := by
  induction l with
  | nil => rfl
  | cons s l ih => rw [List.map_cons, sumN, ih, sumN]; rfl
def rollL (l : List Smp) (width : Int) : List Win := coal ((l.map oneW).map (reT width))
def farS (l : List Smp) : Bool := (l.map oneW).any farW
theorem foldN_small {l : List Win} {width : Int} (hn : ∀ x ∈ l, 0 ≤ x.n) (hs : sumN l ≤ 1000000000) :
    foldN l width = if width < 1 ∨ 1099511627776 < width then ([], 1) else if l.any farW then ([], 6) else (coal (l.map (reT width)), 0) := by
  unfold foldN
  have e : ((List.range l.length).any (bigAt (l.map (reT width)))) = false := by
    have := not_big (l := l.map (reT width)) (by intro x hx; simp at hx; obtain ⟨y, hy, rfl⟩ := hx; exact hn y hy) (by rw [sumN_reT]; exact hs)
    rwa [List.length_map] at this
  rw [e]
  simp
theorem rollN_eq {l : List Smp} (h : chkS l = 0) (width : Int) : rollN l width = if width < 1 ∨ 1099511627776 < width then ([], 1) else if farS l then ([], 6) else (rollL l width, 0) := by
  unfold rollN
  rw [if_neg (by rw [h]; simp)]
  exact foldN_small (by intro x hx; simp at hx; obtain ⟨y, hy, rfl⟩ := hx; exact (show (0 : Int) ≤ 1 by decide)) (by rw [sumN_ones]; have := (chkS_ok h).1; omega)
/-- what it is where it is without an error -/
theorem rollN_ok {l : List Smp} {width : Int} (h : (rollN l width).2 = 0) : chkS l = 0 ∧ 1 ≤ width ∧ width ≤ 1099511627776 ∧ farS l = false ∧ rollN l width = (rollL l width, 0) := by
  by_cases hc : chkS l = 0
  · rw [rollN_eq hc] at h ⊢
    split at h
    · simp at h
    · split at h
      · simp at h
      · rename_i h1 h2
        rw [if_neg h1, if_neg h2]
        exact ⟨hc, by omega, by omega, by simpa using h2, rfl⟩
  · unfold rollN at h
    rw [if_pos hc] at h
    exact absurd h hc
theorem rollN_bad {l : List Smp} {width : Int} (h : (rollN l width).2 ≠ 0) : (rollN l width).1 = [] := by
  by_cases hc : chkS l = 0
  · rw [rollN_eq hc] at h ⊢
    split
    · rfl
    · split
      · rfl
      · rename_i h1 h2
        rw [if_neg h1, if_neg h2] at h
        simp at h
  · unfold rollN
    rw [if_pos hc]
theorem rollN_of {l : List Smp} {width : Int} (h1 : chkS l = 0) (h2 : 1 ≤ width ∧ width ≤ 1099511627776) (h3 : farS l = false) : rollN l width = (rollL l width, 0) := by
  rw [rollN_eq h1, if_neg (by omega), if_neg (by rw [h3]; simp)]
theorem rollL_len (l : List Smp) (width : Int) : (rollL l width).length ≤ l.length := by
  have := coal_len ((l.map oneW).map (reT width))
  simpa [rollL] using this

set_option maxRecDepth 1000000 in
set_option maxHeartbeats 400000 in
theorem rolls_true (w : World) : Calls Try.prog 15 #[] w (R1 (.bool true) (Below w.heap.size w)) := by
  have e1 : ∃ x, rollN twoS 10 = ([x], 0) := ⟨⟨0, 2, 13, 5, 8, 5, 8⟩, by kernel_rfl⟩
  obtain ⟨x, e0⟩ := e1
  have E0 := Lib.hid e0; clear e0
  go_enter Try.func15, Try.ntmps15
  go_wp2_with fail
  refine (two_any _).mono ?_
  rintro e w1 ⟨v, rfl, A, rfl, h1, hb1⟩
  go_wp2_with fail
  refine (roll_any A 2 2 twoS rfl (by decide) 10 _ (by exact E0.out) _ h1).mono ?_
  rintro e w2 ⟨v, rfl, A2, c2, rfl, hown, hb2⟩
  clear hown
  go_wp2_with fail
  go_ret
  exact R1.mk rfl (bnext hb1 hb2)
end Go.Proofs.Ytkcfhfplppdnnaa
