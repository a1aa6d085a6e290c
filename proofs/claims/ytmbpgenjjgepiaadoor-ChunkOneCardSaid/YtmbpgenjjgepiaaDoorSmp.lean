/- What Check of package chunk computes. Conditions: none beyond the theorem's own hypotheses. -/
import Derived.Test.YtmbpgenjjgepiaaDoorOpen
namespace Go.Proofs.YtmbpgenjjgepiaaDoor
open Go.RowKit

/-- the first k steps rise -/
def ordUp (l : List Smp) : Nat → Bool
  | 0 => true
  | k + 1 => ordUp l k && decide ((at_ l k).t < (at_ l (k + 1)).t)
theorem ordUp_le {l : List Smp} {k m : Nat} (h : ordUp l m = true) (hk : k ≤ m) : ordUp l k = true := by
  induction hk with
  | refl => exact h
  | step _ ih => simp [ordUp] at h; exact ih h.1
theorem ordUp_step {l : List Smp} {k m : Nat} (h : ordUp l m = true) (hk : k < m) : (at_ l k).t < (at_ l (k + 1)).t := by
  have := ordUp_le h (show k + 1 ≤ m from hk)
  simp [ordUp] at this
  exact this.2
def chkS (l : List Smp) : Int := if 1000 < l.length then 2 else if ordUp l (l.length - 1) then 0 else 5

theorem chkS_ok {l : List Smp} (h : chkS l = 0) : l.length ≤ 1000 ∧ ordUp l (l.length - 1) = true := by
  unfold chkS at h
  split at h
  · simp at h
  · split at h
    · exact ⟨by omega, by assumption⟩
    · simp at h

set_option maxRecDepth 1000000 in
set_option maxHeartbeats 1000000 in
theorem scheck_any (A : Option Addr) (c : Nat) (l : List Smp) (hl : l.length ≤ maxLen) (w : World) (h : Has w w.heap.size A (smpCs l)) :
    Calls Tryd.prog 12 #[.slice A l.length c] w (R1 (.int .i64 (chkS l)) (Drawn w)) := by
  unfold maxLen at hl
  by_cases h1000 : (1000 : Int) < (l.length : Int)
  · have E := Lib.hid (show chkS l = 2 by unfold chkS; rw [if_pos (by omega)])
    rw [E.out]
    go_enter Tryd.func12, Tryd.ntmps12
    go_wp2
    go_ret
    exact R1.mk rfl (Drawn.refl _)
  · have hle : l.length ≤ 1000 := by omega
    go_enter Tryd.func12, Tryd.ntmps12
    go_wp2
    go_loopw [3] (fun i wr => ∃ k : Nat, k ≤ l.length ∧ i = .int .i64 ((k : Int) + 1) ∧ Hid (ordUp l k = true) ∧ Drawn w wr) (fun i _ => l.length + 5 - (intOf i).toNat)
    case atStart => exact ⟨0, by omega, rfl, Lib.hid rfl, Drawn.refl _⟩
    case round =>
      obtain ⟨k, hk, rfl, hck, n, rfl⟩ := hrel
      by_cases hlt : (k : Int) + 1 < (l.length : Int)
      · obtain ⟨ad, rfl, _, c1⟩ := h.at (smpCs_t (show k < l.length by omega))
        obtain ⟨ad', e, _, c2⟩ := h.at (smpCs_t (show k + 1 < l.length by omega))
        injection e with e
        subst e
        go_wp2
        have e1 : IntKind.i64.wrap ((k : Int) + 1 - 1) = (k : Int) := IntWalk.i64_in _ (by omega) |>.trans (by omega)
        have e2 : ((k : Int) + 1).toNat = k + 1 := by omega
        have q1 : (0 : Int) ≤ (k : Int) + 1 := by omega
        have q2 : (k : Int) < (l.length : Int) := by omega
        by_cases ht : (at_ l k).t < (at_ l (k + 1)).t
        · go_quiet (fail)
          clear e1 e2 q1 q2
          go_wp2
          go_roundw
          case rel => exact ⟨k + 1, by omega, by go_num, Lib.hid (by simp [ordUp, hck.out, ht]), _, rfl⟩
          case measure => simp [intOf]; omega
        · have ht' : (at_ l (k + 1)).t ≤ (at_ l k).t := by omega
          go_quiet (fail)
          clear e1 e2 q1 q2
          go_wp2
          go_ret
          refine R1.mk (int_eq ?_) ⟨_, rfl⟩
          unfold chkS
          rw [if_neg (by omega), if_neg]
          intro hc
          have h9 := ordUp_step hc (k := k) (by omega)
          omega
      · go_wp2
        go_ret
        refine R1.mk (int_eq ?_) ⟨_, rfl⟩
        unfold chkS
        rw [if_neg (by omega), if_pos (ordUp_le hck.out (by omega))]
end Go.Proofs.YtmbpgenjjgepiaaDoor
