/- sync.Once on an object of the call's own: not yet done, its lock free. Conditions: the object's cells. -/
import Derived.Test.YtmfndpkhcejffaaGreatDoorKit
import Derived.Tactics
import Derived.Tactics2
import Derived.Defers
import Derived.Laws.Pointers
import Derived.Laws.LoneSync
import Derived.RegionTactic
import Derived.RegionCalls
import Derived.ChangeAlike
namespace Go.Proofs.YtmfndpkhcejffaaGreatDoor
open Go.RowKit

theorem rp_disable (w : World) : (callFunc 64 #[]).run Tryz.prog w = .ok (.value (.tuple #[])) w := run_call_mark0 Tryz.func64 (by kernel_rfl) (by kernel_rfl) (by kernel_rfl) .disable (by kernel_rfl) w
theorem rp_enable (w : World) : (callFunc 66 #[]).run Tryz.prog w = .ok (.value (.tuple #[])) w := run_call_mark0 Tryz.func66 (by kernel_rfl) (by kernel_rfl) (by kernel_rfl) .enable (by kernel_rfl) w
theorem rp_acquire (a : Addr) (w : World) : (callFunc 67 #[.pointer (some a)]).run Tryz.prog w = .ok (.value (.tuple #[])) w := run_call_marked Tryz.func67 (by kernel_rfl) (by kernel_rfl) (by kernel_rfl) .acquire (by kernel_rfl) a w
theorem rp_releaseMerge (a : Addr) (w : World) : (callFunc 69 #[.pointer (some a)]).run Tryz.prog w = .ok (.value (.tuple #[])) w := run_call_marked Tryz.func69 (by kernel_rfl) (by kernel_rfl) (by kernel_rfl) .releaseMerge (by kernel_rfl) a w

/-- '(*sync/atomic.Bool).Store(true)', entered as a deferred call -/
theorem rp_store_deferred (a : Addr) (x : Value) (u : FrameMode) (w : World) (hc : w.cell? a = some x) (hz : w.frozen? a = false) :
    CallsD Tryz.prog 54 #[.pointer (some a), .bool true] u w fun e u' w' => u' = u ∧ (e = .returned (.tuple #[]) ∧ w' = w.drew.setCell a (.int .u32 1)) := by
  have hc' : w.drew.cell? a = some x := by go_simp
  have hz' : w.drew.frozen? a = false := by go_simp
  have hst := run_call_store (P := Tryz.prog) Tryz.func60 (by kernel_rfl) (by kernel_rfl) (by kernel_rfl) (by kernel_rfl) (k := .u32) (y := 1) hc' hz'
  go_enter_d Tryz.func54, Tryz.ntmps54
  go_wp2
  go_region_calls
  all_goals (go_end0; exact ⟨rfl, rfl⟩)
set_option maxRecDepth 100000 in
set_option maxHeartbeats 1600000 in
/-- '(*sync.Mutex).Unlock', entered as a deferred call, the lock held and nobody waiting -/
theorem rp_unlock_deferred (a : Addr) (u : FrameMode) (w : World) (hc : w.cell? a = some (.int .i32 1)) (hz : w.frozen? a = false) :
    CallsD Tryz.prog 53 #[.pointer (some a)] u w fun e u' w' => u' = u ∧ (e = .returned (.tuple #[]) ∧ w' = w.setCell a (.int .i32 0)) := by
  have hd := rp_disable
  have he := rp_enable
  have hr := rp_releaseMerge
  have hadd := run_call_add (P := Tryz.prog) Tryz.func70 (by kernel_rfl) (by kernel_rfl) (by kernel_rfl) .i32 (by kernel_rfl) (y := -1) (s := 0) hc hz (by simp [go_sem]; rfl)
  have hcv := run_convert_to_unsafe (P := Tryz.prog) (src := 134) (dst := 102) Tryz.underlying134 Tryz.underlying102 (by kernel_rfl) hc
  go_enter_d Tryz.func53, Tryz.ntmps53
  go_wp2
  go_end0
  go_wp2
  go_end0
  exact ⟨rfl, rfl⟩
set_option maxRecDepth 100000 in
set_option maxHeartbeats 1600000 in
/-- '(*sync.Mutex).Lock', the lock free -/
theorem rp_lock_free (a : Addr) (w : World) (hc : w.cell? a = some (.int .i32 0)) (hz : w.frozen? a = false) :
    Calls Tryz.prog 52 #[.pointer (some a)] w fun e w' => e = .returned (.tuple #[]) ∧ w' = w.setCell a (.int .i32 1) := by
  have hd := rp_disable
  have he := rp_enable
  have ha := rp_acquire
  have hcas := run_call_cas_hit (P := Tryz.prog) Tryz.func65 (by kernel_rfl) (by kernel_rfl) (by kernel_rfl) .i32 (by kernel_rfl) (y := 1) hc hz
  have hc' : (w.setCell a (.int .i32 1)).cell? a = some (.int .i32 1) := World.cell?_setCell_same w a _ hc
  have hcv := run_convert_to_unsafe (P := Tryz.prog) (src := 134) (dst := 102) Tryz.underlying134 Tryz.underlying102 (by kernel_rfl) hc'
  go_enter Tryz.func52, Tryz.ntmps52
  go_wp2
  first | go_end0 | (simp only [Exit.inBlock, Exit.then]; refine bodyPost_ret (results_none rfl _ _ _) rfl ?_) | refine bodyPost_ret (results_none rfl _ _ _) rfl ?_
  go_wp2
  go_end0
  exact ⟨rfl, rfl⟩

set_option maxRecDepth 100000 in
theorem rp_load (a : Addr) (w : World) (hc : w.cell? a = some (.int .u32 0)) : Calls Tryz.prog 45 #[.pointer (some a)] w fun e w' => e = .returned (.bool false) ∧ w' = w := by
  have hl := run_call_load (P := Tryz.prog) Tryz.func51 (by kernel_rfl) (by kernel_rfl) (by kernel_rfl) .u32 (by kernel_rfl) hc
  go_enter Tryz.func45, Tryz.ntmps45
  go_wp2
  go_ret
  exact ⟨rfl, rfl⟩
set_option maxRecDepth 100000 in
set_option maxHeartbeats 1600000 in
/-- '(*sync.Once).doSlow', not yet done, the lock free: the function is called between the lock's two ends -/
theorem rp_slow (b : Nat) (fv : Nat) (args : Array Value) (Post : World → Prop) (w : World)
    (h0 : w.cell? ⟨b, 0, none⟩ = some (.int .u32 0)) (h1 : w.cell? ⟨b, 1, none⟩ = some (.int .i32 0)) (f1 : w.frozen? ⟨b, 1, none⟩ = false)
    (hcall : Calls Tryz.prog fv args (w.setCell ⟨b, 1, none⟩ (.int .i32 1)) fun e w' => e = .returned (.tuple #[]) ∧ Post w')
    (henter : ∀ w : World, (callFunc fv args).run Tryz.prog w = .ok (.enter fv args) w)
    (hP : ∀ w', Post w' → w'.cell? ⟨b, 0, none⟩ = some (.int .u32 0) ∧ w'.cell? ⟨b, 1, none⟩ = some (.int .i32 1) ∧ w'.frozen? ⟨b, 0, none⟩ = false ∧ w'.frozen? ⟨b, 1, none⟩ = false) :
    Calls Tryz.prog 46 #[.pointer (some ⟨b, 0, none⟩), .func (.func fv) args #[]] w fun e w' => e = .returned (.tuple #[]) ∧ ∃ w1, Post w1 ∧ w' = (w1.drew.setCell ⟨b, 0, none⟩ (.int .u32 1)).setCell ⟨b, 1, none⟩ (.int .i32 0) := by
  have hl0 : (w.setCell ⟨b, 1, none⟩ (.int .i32 1)).cell? ⟨b, 0, none⟩ = some (.int .u32 0) := (World.cell?_setCell_other _ ⟨b, 1, none⟩ ⟨b, 0, none⟩ _ (by simp)).trans h0
  have hnot : ∀ (x : Bool) (w : World), (Op.unary .not (.bool x)).run Tryz.prog w = .ok (.bool (!x)) w := fun _ _ => rfl
  have HC := Lib.hid hcall
  have HP := Lib.hid hP
  clear hcall hP
  go_enter_defers Tryz.func46, Tryz.ntmps46
  go_wp2_with (go_at_call 52; refine (rp_lock_free ⟨b, 1, none⟩ _ (by go_simp) (by go_simp)).mono ?_; rintro e w' ⟨rfl, rfl⟩)
  refine (rp_load ⟨b, 0, none⟩ _ hl0).mono ?_
  rintro e w2 ⟨rfl, rfl⟩
  go_wp2_with fail
  refine HC.out.mono ?_
  rintro e w3 ⟨rfl, hp3⟩
  obtain ⟨p0, p1, q0, q1⟩ := HP.out w3 hp3
  go_wp2_with fail
  refine leaves_cons (f := 54) (args := #[.pointer (some ⟨b, 0, none⟩), .bool true]) (by simp) (by simp [go_sem]) ?_
  refine (rp_store_deferred ⟨b, 0, none⟩ (.int .u32 0) .returning _ p0 q0).mono ?_
  rintro e u' w4 ⟨rfl, rfl, rfl⟩
  refine leaves_cons (f := 53) (args := #[.pointer (some ⟨b, 1, none⟩)]) (by simp [settle]) (by simp [go_sem]) ?_
  refine (rp_unlock_deferred ⟨b, 1, none⟩ _ _ ?_ (by simp [q1])).mono ?_
  · refine (World.cell?_setCell_other _ ⟨b, 0, none⟩ ⟨b, 1, none⟩ _ (by simp)).trans ?_
    rw [World.cell?_drew]
    exact p1
  rintro e u' w5 ⟨rfl, rfl, rfl⟩
  simp [Leaves, settle, results, Tryz.results46]
  exact ⟨w3, hp3, rfl⟩
set_option maxRecDepth 100000 in
set_option maxHeartbeats 1600000 in
/-- '(*sync.Once).Do', not yet done, the lock free -/
theorem rp_do (b : Nat) (fv : Nat) (args : Array Value) (Post : World → Prop) (w : World)
    (h0 : w.cell? ⟨b, 0, none⟩ = some (.int .u32 0)) (h1 : w.cell? ⟨b, 1, none⟩ = some (.int .i32 0)) (f1 : w.frozen? ⟨b, 1, none⟩ = false)
    (hcall : Calls Tryz.prog fv args (w.setCell ⟨b, 1, none⟩ (.int .i32 1)) fun e w' => e = .returned (.tuple #[]) ∧ Post w')
    (henter : ∀ w : World, (callFunc fv args).run Tryz.prog w = .ok (.enter fv args) w)
    (hP : ∀ w', Post w' → w'.cell? ⟨b, 0, none⟩ = some (.int .u32 0) ∧ w'.cell? ⟨b, 1, none⟩ = some (.int .i32 1) ∧ w'.frozen? ⟨b, 0, none⟩ = false ∧ w'.frozen? ⟨b, 1, none⟩ = false) :
    Calls Tryz.prog 37 #[.pointer (some ⟨b, 0, none⟩), .func (.func fv) args #[]] w fun e w' => e = .returned (.tuple #[]) ∧ ∃ w1, Post w1 ∧ w' = (w1.drew.setCell ⟨b, 0, none⟩ (.int .u32 1)).setCell ⟨b, 1, none⟩ (.int .i32 0) := by
  have hnot : ∀ (x : Bool) (w : World), (Op.unary .not (.bool x)).run Tryz.prog w = .ok (.bool (!x)) w := fun _ _ => rfl
  have HS := Lib.hid (rp_slow b fv args Post w h0 h1 f1 hcall henter hP)
  have HL := Lib.hid (rp_load ⟨b, 0, none⟩ w h0)
  clear hcall henter hP
  go_enter Tryz.func37, Tryz.ntmps37
  go_wp2_with fail
  refine HL.out.mono ?_
  rintro e w2 ⟨rfl, rfl⟩
  go_wp2_with fail
  refine HS.out.mono ?_
  rintro e w3 ⟨rfl, hw⟩
  have HW := Lib.hid hw
  clear hw
  go_wp2_with fail
  go_end0
  exact ⟨rfl, HW.out⟩
end Go.Proofs.YtmfndpkhcejffaaGreatDoor
