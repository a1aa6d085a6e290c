/- What Check of package roll answers to windows in form, and what the windows of samples are. Conditions: at most a thousand windows, in form. -/
import Derived.Test.YtkcfhfplppdnnaaRollUp
namespace Go.Proofs.Ytkcfhfplppdnnaa
open Go.RowKit

set_option maxRecDepth 1000000 in
set_option maxHeartbeats 2000000 in
theorem wcheck_any (A : Option Addr) (n c : Nat) (l : List Win) (hn : l.length = n) (hl : n ≤ 1000) (hok : ∀ x ∈ l, okW x) (hup : UpW l) (w : World) (hA : Has w w.heap.size A (winCs l)) :
    Calls Try.prog 27 #[.slice A n c] w (R1 (.int .i64 0) (Below w.heap.size w)) := by
  subst hn
  have Hok := Lib.hid hok; clear hok
  have Hup := Lib.hid hup; clear hup
  go_enter Try.func27, Try.ntmps27
  go_wp2_with fail
  go_loopw [10] (fun i wr => ∃ k : Nat, k ≤ l.length ∧ i = .int .i64 (k : Nat) ∧ Below w.heap.size w wr) (fun i _ => l.length + 5 - (intOf i).toNat)
  case atStart => exact ⟨0, by omega, rfl, Below.refl _ _⟩
  case round =>
    obtain ⟨k, hk, rfl, hbr⟩ := hrel
    have hbs := hbr.size
    by_cases hlt : (k : Int) < (l.length : Int)
    · obtain ⟨ad, rfl, hadb, d0, d1, d2, d3, d4, d5, d6⟩ := (hA.below hbr).win (show k < l.length by omega)
      obtain ⟨o1, o2, o3, o4, o5, o6, o7⟩ := Hok.out _ (at_mem (show k < l.length by omega))
      rcases k with _ | k
      · rw [show ad.add (0 * 7) = ad by simp [Addr.add]] at d0 d1 d2 d3 d4 d5 d6
        rw [show ((0 : Nat) : Int) = 0 from rfl]
        have g1 : decide ((0 : Int) < 0) = false := by decide
        go_wp2_with fail
        all_goals
          go_quiet (fail)
          go_wp2_with fail
          go_roundw
          case rel => exact ⟨1, by omega, rfl, below_drewN (hbr.alloc hbs _) _⟩
          case measure => simp [intOf]
      · obtain ⟨ad', e', _, p0, _⟩ := (hA.below hbr).win (show k < l.length by omega)
        injection e' with e'
        subst e'
        have hlt2 : (at_ l k).t < (at_ l (k + 1)).t := by
          rw [at_eq (by omega), at_eq (by omega)]
          exact (List.pairwise_iff_getElem.1 Hup.out) k (k + 1) (by omega) (by omega) (by omega)
        rw [show ((k + 1 : Nat) : Int) = (k : Int) + 1 from rfl] at hlt ⊢
        have g1 : decide ((0 : Int) < (k : Int) + 1) = true := by rw [decide_eq_true_iff]; omega
        have g2 : decide ((at_ l (k + 1)).t ≤ (at_ l k).t) = false := by rw [decide_eq_false_iff_not]; omega
        have e1 : IntKind.i64.wrap ((k : Int) + 1 - 1) = (k : Int) := IntWalk.i64_in _ (by omega) |>.trans (by omega)
        have e3 : IntKind.i64.wrap (k : Int) = (k : Int) := IntWalk.i64_in _ (by omega)
        have q3 : (ad.add (k * 7)).block < wr.heap.size := by rw [add_block]; omega
        have q1 : (0 : Int) ≤ (k : Int) := by omega
        have q2 : (k : Int) < (l.length : Int) := by omega
        go_wp2_with fail
        all_goals
          go_quiet (fail)
          clear e1 e3 q1 q2
          go_wp2_with fail
          go_roundw
          case rel => exact ⟨k + 1 + 1, by omega, by go_num, below_drewN (hbr.alloc hbs _) _⟩
          case measure => simp [intOf]; omega
    · go_wp2_with fail
      go_ret
      exact R1.mk rfl hbr

theorem ordUp_up {l : List Smp} (h : ordUp l (l.length - 1) = true) : l.Pairwise (fun x y => x.t < y.t) := by
  rw [List.pairwise_iff_getElem]
  have mono : ∀ j i, i < j → j < l.length → (at_ l i).t < (at_ l j).t := by
    intro j
    induction j with
    | zero => intro i hi; omega
    | succ j ih =>
      intro i hi hj
      have h2 := ordUp_step h (show j < l.length - 1 by omega)
      rcases Nat.lt_or_ge i j with h3 | h3
      · have := ih i h3 (by omega); omega
      · rw [show i = j by omega]; exact h2
  intro i j hi hj hij
  have := mono j i hij hj
  rwa [at_eq hi, at_eq hj] at this
theorem ones_down {l : List Smp} (h : chkS l = 0) : NotDown (l.map oneW) := by
  have hu := ordUp_up (chkS_ok h).2
  unfold NotDown
  rw [List.pairwise_map]
  exact hu.imp (fun hxy => Int.le_of_lt hxy)
theorem rollL_told {l : List Smp} {width : Int} (hw : 1 ≤ width) : Told width (rollL l width) l := by
  have := told_coal (width := width) (by omega) l
  unfold rollL
  rw [List.map_map]
  exact this
theorem rollL_up {l : List Smp} {width : Int} (h : chkS l = 0) (hw : 1 ≤ width) : UpW (rollL l width) :=
  coal_up (not_down (by omega) (ones_down h))
theorem rollL_ok {l : List Smp} {width : Int} (h : chkS l = 0) (hw : 1 ≤ width) : ∀ x ∈ rollL l width, okW x := fun x hx =>
  ((told_ok (rollL_told hw) (chkS_ok h).1) x hx).1
end Go.Proofs.Ytkcfhfplppdnnaa
