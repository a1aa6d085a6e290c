/- What Check of package bits computes. Conditions: the bytes are at most 2 to the 47th. -/
import Derived.Test.YtmbpgenjjgepiaaDoorKit
namespace Go.Proofs.YtmbpgenjjgepiaaDoor
open Go.RowKit

/-- m bits in these bytes, in form -/
def BOk (l : List Nat) (m : Nat) : Prop := m ≤ 8 * l.length ∧ l.length ≤ (m + 7) / 8 ∧ (0 < m % 8 → at_ l (l.length - 1) * 2 ^ (m % 8) % 256 = 0)
instance (l : List Nat) (m : Nat) : Decidable (BOk l m) := by unfold BOk; exact inferInstance
def chkB (l : List Nat) (N : Int) : Int := if 0 ≤ N ∧ BOk l N.toNat then 0 else 4

set_option maxRecDepth 1000000 in
set_option maxHeartbeats 1000000 in
theorem bcheck_neg (A : Option Addr) (c : Nat) (l : List Nat) (m : Int) (h0 : m < 0) (w : World) :
    Calls Tryd.prog 29 #[.agg #[.slice A l.length c, .int .i64 m]] w (R1 (.int .i64 4) (Below w.heap.size w)) := by
  have hbx : ∀ n, Below w.heap.size w ((w.alloc (.cells #[.slice A l.length c, .int .i64 m] 43)).drewN n) := fun n => below_drewN ((Below.refl _ _).alloc (Nat.le_refl _) _) _
  go_enter Tryd.func29, Tryd.ntmps29
  go_wp2
  go_quiet (fail)
  go_wp2
  go_ret
  exact R1.mk rfl (hbx _)

set_option maxRecDepth 1000000 in
set_option maxHeartbeats 1000000 in
theorem bcheck_big (A : Option Addr) (c : Nat) (l : List Nat) (m : Nat) (hl : l.length ≤ 140737488355328) (h1 : 8 * (l.length : Int) < (m : Int)) (w : World) :
    Calls Tryd.prog 29 #[.agg #[.slice A l.length c, .int .i64 m]] w (R1 (.int .i64 4) (Below w.heap.size w)) := by
  have hbx : ∀ n, Below w.heap.size w ((w.alloc (.cells #[.slice A l.length c, .int .i64 m] 43)).drewN n) := fun n => below_drewN ((Below.refl _ _).alloc (Nat.le_refl _) _) _
  have d0 : decide ((m : Int) < 0) = false := by simp
  have d1 : decide (8 * (l.length : Int) < (m : Int)) = true := by simpa using h1
  have e1 : IntKind.i64.wrap (8 * (l.length : Int)) = 8 * (l.length : Int) := IntWalk.i64_in _ (by omega)
  go_enter Tryd.func29, Tryd.ntmps29
  go_wp2
  go_quiet (fail)
  go_wp2
  go_ret
  exact R1.mk rfl (hbx _)

set_option maxRecDepth 1000000 in
set_option maxHeartbeats 1000000 in
theorem bcheck_long (A : Option Addr) (c : Nat) (l : List Nat) (m : Nat) (hm : m ≤ 9223372036854775800) (hl : l.length ≤ 140737488355328) (h1 : (m : Int) ≤ 8 * (l.length : Int)) (h2 : ((m : Int) + 7) / 8 < (l.length : Int)) (w : World) :
    Calls Tryd.prog 29 #[.agg #[.slice A l.length c, .int .i64 m]] w (R1 (.int .i64 4) (Below w.heap.size w)) := by
  have hbx : ∀ n, Below w.heap.size w ((w.alloc (.cells #[.slice A l.length c, .int .i64 m] 43)).drewN n) := fun n => below_drewN ((Below.refl _ _).alloc (Nat.le_refl _) _) _
  have d0 : decide ((m : Int) < 0) = false := by simp
  have d1 : decide (8 * (l.length : Int) < (m : Int)) = false := by simpa using h1
  have d2 : decide (((m : Int) + 7) / 8 < (l.length : Int)) = true := by simpa using h2
  have e1 : IntKind.i64.wrap (8 * (l.length : Int)) = 8 * (l.length : Int) := IntWalk.i64_in _ (by omega)
  have e2 : IntKind.i64.wrap ((m : Int) + 7) = (m : Int) + 7 := IntWalk.i64_in _ (by omega)
  have e3 : IntKind.i64.wrap (((m : Int) + 7).tdiv 8) = ((m : Int) + 7) / 8 := IntWalk.i64_quo _ _ (by omega)
  go_enter Tryd.func29, Tryd.ntmps29
  go_wp2
  go_quiet (fail)
  go_wp2
  go_ret
  exact R1.mk rfl (hbx _)

set_option maxRecDepth 1000000 in
set_option maxHeartbeats 1000000 in
theorem bcheck_whole (A : Option Addr) (c : Nat) (l : List Nat) (m : Nat) (hm : m ≤ 9223372036854775800) (hl : l.length ≤ 140737488355328) (h1 : (m : Int) ≤ 8 * (l.length : Int)) (h2 : (l.length : Int) ≤ ((m : Int) + 7) / 8) (h3 : m % 8 = 0) (w : World) :
    Calls Tryd.prog 29 #[.agg #[.slice A l.length c, .int .i64 m]] w (R1 (.int .i64 0) (Below w.heap.size w)) := by
  have hbx : ∀ n, Below w.heap.size w ((w.alloc (.cells #[.slice A l.length c, .int .i64 m] 43)).drewN n) := fun n => below_drewN ((Below.refl _ _).alloc (Nat.le_refl _) _) _
  have d0 : decide ((m : Int) < 0) = false := by simp
  have d1 : decide (8 * (l.length : Int) < (m : Int)) = false := by simpa using h1
  have d2 : decide (((m : Int) + 7) / 8 < (l.length : Int)) = false := by simpa using h2
  have d3 : decide (0 < (m : Int) % 8) = false := by rw [decide_eq_false_iff_not]; omega
  clear h3
  have e1 : IntKind.i64.wrap (8 * (l.length : Int)) = 8 * (l.length : Int) := IntWalk.i64_in _ (by omega)
  have e2 : IntKind.i64.wrap ((m : Int) + 7) = (m : Int) + 7 := IntWalk.i64_in _ (by omega)
  have e3 : IntKind.i64.wrap (((m : Int) + 7).tdiv 8) = ((m : Int) + 7) / 8 := IntWalk.i64_quo _ _ (by omega)
  have e4 : ((m : Int)).tmod 8 = (m : Int) % 8 := Int.tmod_eq_emod_of_nonneg (by omega)
  go_enter Tryd.func29, Tryd.ntmps29
  go_wp2
  go_quiet (fail)
  go_wp2
  go_ret
  exact R1.mk rfl (hbx _)

set_option maxRecDepth 1000000 in
set_option maxHeartbeats 1000000 in
theorem bcheck_part (ad : Addr) (c : Nat) (l : List Nat) (m : Nat) (hm : m ≤ 9223372036854775800) (hl : l.length ≤ 140737488355328) (h1 : (m : Int) ≤ 8 * (l.length : Int)) (h2 : (l.length : Int) ≤ ((m : Int) + 7) / 8) (h3 : 0 < m % 8) (w : World) (hbl : ad.block < w.heap.size) (x : Nat) (hc : w.cell? (ad.add (l.length - 1)) = some (.int .u8 (x : Int))) (zb : Bool) (hz : ((x : Int) * 2 ^ (m % 8) % 256 != 0) = zb) :
    Calls Tryd.prog 29 #[.agg #[.slice (some ad) l.length c, .int .i64 m]] w (R1 (.int .i64 (if zb then 4 else 0)) (Below w.heap.size w)) := by
  have hbx : ∀ n, Below w.heap.size w ((w.alloc (.cells #[.slice (some ad) l.length c, .int .i64 m] 43)).drewN n) := fun n => below_drewN ((Below.refl _ _).alloc (Nat.le_refl _) _) _
  have d0 : decide ((m : Int) < 0) = false := by simp
  have d1 : decide (8 * (l.length : Int) < (m : Int)) = false := by simpa using h1
  have d2 : decide (((m : Int) + 7) / 8 < (l.length : Int)) = false := by simpa using h2
  have d3 : decide (0 < (m : Int) % 8) = true := by rw [decide_eq_true_iff]; omega
  have e5 : IntKind.i64.wrap ((l.length : Int) - 1) = (l.length : Int) - 1 := IntWalk.i64_in _ (by omega)
  have q5 : (1 : Int) ≤ (l.length : Int) := by omega
  have q6 : (0 : Int) ≤ (l.length : Int) - 1 := by omega
  have q7 : (l.length : Int) - 1 < (l.length : Int) := by omega
  have q8 : ((l.length : Int) - 1).toNat = l.length - 1 := by omega
  have q9 : (0 : Int) ≤ (m : Int) % 8 := by omega
  have e1 : IntKind.i64.wrap (8 * (l.length : Int)) = 8 * (l.length : Int) := IntWalk.i64_in _ (by omega)
  have e2 : IntKind.i64.wrap ((m : Int) + 7) = (m : Int) + 7 := IntWalk.i64_in _ (by omega)
  have e3 : IntKind.i64.wrap (((m : Int) + 7).tdiv 8) = ((m : Int) + 7) / 8 := IntWalk.i64_quo _ _ (by omega)
  have e4 : ((m : Int)).tmod 8 = (m : Int) % 8 := Int.tmod_eq_emod_of_nonneg (by omega)
  have hc' : (w.alloc (.cells #[.slice (some ad) l.length c, .int .i64 m] 43)).cell? (ad.add (l.length - 1)) = some (.int .u8 (x : Int)) := by
    rw [World.cell?_alloc_lt _ _ _ (by rw [add_block]; exact hbl)]; exact hc
  cases zb
  all_goals
    go_enter Tryd.func29, Tryd.ntmps29
    go_wp2
    go_quiet (fail)
    go_wp2
    go_ret
    exact R1.mk rfl (hbx _)

theorem bcheck_any (A : Option Addr) (c : Nat) (l : List Nat) (N : Int) (hN : N ≤ 9223372036854775807) (hl : l.length ≤ 140737488355328) (w : World) (h : Has w w.heap.size A (u8s l)) :
    Calls Tryd.prog 29 #[.agg #[.slice A l.length c, .int .i64 N]] w (R1 (.int .i64 (chkB l N)) (Below w.heap.size w)) := by
  by_cases h0 : N < 0
  · rw [show chkB l N = 4 by unfold chkB; rw [if_neg (by omega)]]
    exact bcheck_neg A c l N h0 w
  obtain ⟨m, rfl⟩ := Int.eq_ofNat_of_zero_le (show 0 ≤ N by omega)
  by_cases h1 : 8 * (l.length : Int) < (m : Int)
  · rw [show chkB l m = 4 by unfold chkB BOk; rw [if_neg (by simp; omega)]]
    exact bcheck_big A c l m hl h1 w
  by_cases h2 : ((m : Int) + 7) / 8 < (l.length : Int)
  · rw [show chkB l m = 4 by unfold chkB BOk; rw [if_neg (by simp; omega)]]
    exact bcheck_long A c l m (by omega) hl (by omega) h2 w
  by_cases h3 : m % 8 = 0
  · rw [show chkB l m = 0 by unfold chkB BOk; rw [if_pos (by simp; omega)]]
    exact bcheck_whole A c l m (by omega) hl (by omega) (by omega) h3 w
  have hpos : l.length - 1 < l.length := by omega
  obtain ⟨ad, rfl, hb, hc⟩ := h.at (u8s_at hpos)
  have e : ((at_ l (l.length - 1) : Nat) : Int) * 2 ^ (m % 8) % 256 = ((at_ l (l.length - 1) * 2 ^ (m % 8) % 256 : Nat) : Int) := by
    rw [Int.natCast_emod, Int.natCast_mul, Int.natCast_pow]; rfl
  by_cases h4 : at_ l (l.length - 1) * 2 ^ (m % 8) % 256 = 0
  · rw [show chkB l m = 0 by unfold chkB BOk; rw [if_pos ⟨by omega, by simp; omega, by simp; omega, fun _ => by simpa using h4⟩]]
    exact bcheck_part ad c l m (by omega) hl (by omega) (by omega) (by omega) w hb _ hc false (by rw [e, h4]; rfl)
  · rw [show chkB l m = 4 by unfold chkB BOk; rw [if_neg (fun h => h4 (by simpa using h.2.2.2 (by simpa using (show 0 < m % 8 by omega))))]]
    exact bcheck_part ad c l m (by omega) hl (by omega) (by omega) (by omega) w hb _ hc true (by rw [e, bne_iff_ne]; omega)
end Go.Proofs.YtmbpgenjjgepiaaDoor
