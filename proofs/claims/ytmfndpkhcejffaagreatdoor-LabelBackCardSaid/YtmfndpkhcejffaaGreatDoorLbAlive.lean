/- What the laws' helper labels tells: true. No conditions. -/
import Derived.Test.YtmfndpkhcejffaaGreatDoorLbChk
namespace Go.Proofs.YtmfndpkhcejffaaGreatDoor
open Go.RowKit

set_option maxRecDepth 1000000 in
set_option maxHeartbeats 1000000 in
theorem join_none (w : World) : Calls Tryz.prog 21 #[.slice none 0 0, .string ⟨#[44]⟩] w (R1 (.string ⟨#[]⟩) (fun w' => w' = w)) := by
  go_enter Tryz.func21, Tryz.ntmps21
  go_wp2_with fail
  go_ret
  exact R1.mk rfl rfl
set_option maxRecDepth 1000000 in
set_option maxHeartbeats 1000000 in
theorem matches_none (w : World) : Calls Tryz.prog 13 #[.slice none 0 0] w (R1 (.slice none 0 0) (fun w' => w' = w)) := by
  go_enter Tryz.func13, Tryz.ntmps13
  go_wp2_with fail
  go_loopw [3, 8] (fun ov iv wr => ov = .slice none 0 0 ∧ iv = .int .i64 0 ∧ wr = w) (fun _ _ _ => 0)
  case atStart => exact ⟨rfl, rfl, rfl⟩
  case round =>
    obtain ⟨rfl, rfl, rfl⟩ := hrel
    go_wp2_with fail
    go_ret
    exact R1.mk rfl rfl
set_option maxRecDepth 1000000 in
set_option maxHeartbeats 1000000 in
theorem text_none (w : World) : Calls Tryz.prog 12 #[.slice none 0 0] w (R1 (.string ⟨#[123, 125]⟩) (fun w' => w' = w)) := by
  go_enter Tryz.func12, Tryz.ntmps12
  go_wp2_with fail
  go_loopw [3, 8] (fun ov iv wr => ov = .slice none 0 0 ∧ iv = .int .i64 0 ∧ wr = w) (fun _ _ _ => 0)
  case atStart => exact ⟨rfl, rfl, rfl⟩
  case round =>
    obtain ⟨rfl, rfl, rfl⟩ := hrel
    go_wp2_with fail
    refine (join_none wr).mono ?_
    rintro e1 w1 ⟨rfl, rfl⟩
    go_wp2_with fail
    go_ret
    exact R1.mk rfl rfl
set_option maxRecDepth 1000000 in
set_option maxHeartbeats 1000000 in
theorem labels_any (w : World) : Calls Tryz.prog 4 #[] w (R1 (.bool true) (Below w.heap.size w)) := by
  have HC := Lib.hid (lcheck_any none 0 0 [] rfl (by decide) w (Has.nil _ _ _) (fun e he => by cases he))
  rw [show chkL [] = 0 from rfl] at HC
  have HT : Hid (Calls Tryz.prog 5 #[.slice none 0 0] w (R1 (.tuple #[.string ⟨#[123, 125]⟩, .int .i64 0]) (Below w.heap.size w))) := Lib.hid (by
    go_enter Tryz.func5, Tryz.ntmps5
    go_wp2_with fail
    refine HC.out.mono ?_
    rintro e1 w1 ⟨rfl, hb1⟩
    go_wp2_with fail
    refine (matches_none w1).mono ?_
    rintro e2 w2 ⟨rfl, rfl⟩
    go_wp2_with fail
    refine (text_none w2).mono ?_
    rintro e3 w3 ⟨rfl, rfl⟩
    go_wp2_with fail
    go_ret2
    exact R1.mk rfl hb1)
  go_enter Tryz.func4, Tryz.ntmps4
  go_wp2_with fail
  refine HT.out.mono ?_
  rintro e1 w1 ⟨rfl, hb1⟩
  go_wp2_with fail
  go_ret
  exact R1.mk rfl hb1
end Go.Proofs.YtmfndpkhcejffaaGreatDoor
