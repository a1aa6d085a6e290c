/- Texts of the proof of ExprOne, joined (by merge.py). Conditions: each theorem's own hypotheses. -/
import Derived.Test.YtnicbhmeigpjkaaGreatDoorExprOneP2
import Derived.Test.YtnicbhmeigpjkaaGreatDoorExprOneP20
namespace Go.Proofs.YtnicbhmeigpjkaaGreatDoor
open Go.RowKit

/-- an expression that is a number -/
def numE (n : Int) : ExE := .mk 1 n 0 none 0 [] none 0 [] none 0 []
theorem numE_chk (n : Int) : (numE n).chkT = 0 := by
  unfold ExE.chkT
  rw [ExE.chk_eq]
  rfl
theorem numE_cnt (n : Int) : (numE n).cnt = 1 := rfl
theorem numE_G {n : Int} (h : in64 n) (w : World) : (numE n).G w :=
  .mk ⟨(show in64 1 from ⟨by decide, by decide⟩), h, (show in64 0 from ⟨by decide, by decide⟩), (fun _ hx => absurd hx (List.not_mem_nil)), Nat.le_refl _, Nat.zero_le _, (fun _ => rfl), Has.nil _ _ _, (fun _ hx => absurd hx (List.not_mem_nil)), Nat.le_refl _, Nat.zero_le _, (fun _ => rfl), Has.nil _ _ _, Nat.zero_le _, Nat.le_refl _, Nat.zero_le _, (fun _ => rfl), Has.nil _ _ _⟩ (fun _ hy => absurd hy (List.not_mem_nil))
set_option maxRecDepth 1000000 in
set_option maxHeartbeats 4000000 in
theorem text7_any (w : World) : Calls Tryz.prog 38 #[exV (numE 7)] w (R1 (.string ⟨#[55]⟩) (Below w.heap.size w)) := by
  obtain ⟨W0, hW0⟩ : ∃ W0, w.alloc (.cells #[.int .i64 1, .int .i64 7, .int .i64 0, .slice none 0 0, .slice none 0 0, .slice none 0 0] 28) = W0 := ⟨_, rfl⟩
  obtain ⟨q, hq⟩ : ∃ q, w.heap.size = q := ⟨_, rfl⟩
  have hb0 : Below w.heap.size w W0 := by rw [← hW0]; exact one_allocB _ _
  have kx : Blk W0 q 28 #[.int .i64 1, .int .i64 7, .int .i64 0, .slice none 0 0, .slice none 0 0, .slice none 0 0] := by rw [← hW0]; exact Blk.newM _ _ _ _ hq
  have x0 : W0.cell? ⟨q, 0, none⟩ = some (.int .i64 1) := kx.cell 0
  have x1 : W0.cell? ⟨q, 1, none⟩ = some (.int .i64 7) := kx.cell 1
  have HP := Lib.hid (fun (w' : World) => xparts_any 1 w')
  have HF := (fun (w' : World) => Tryz.strconv_FormatInt_10_small 7 (by decide) w')
  simp only [show (⟨(Lib.decDigits 7).toArray⟩ : ByteArray) = ⟨#[55]⟩ from by kernel_rfl] at HF
  replace HF := Lib.hid HF
  have HW0 := Lib.hid hW0
  have Hq := Lib.hid hq
  replace hb0 := Lib.hid hb0
  clear hW0 hq kx
  show Calls Tryz.prog 38 #[.agg #[.int .i64 1, .int .i64 7, .int .i64 0, .slice none 0 0, .slice none 0 0, .slice none 0 0]] w _
  go_enter Tryz.func38, Tryz.ntmps38
  go_upto_region 1 with fail
  rw [HW0.out, Hq.out]
  go_wp2_with fail
  refine (HP.out _).mono ?_
  rintro e w' ⟨rfl, rfl⟩
  go_wp2_with fail
  refine (HF.out _).mono ?_
  rintro e w' ⟨rfl, hw⟩
  obtain rfl := hw.symm
  go_wp2_with fail
  go_ret
  exact R1.mk rfl hb0.out
set_option maxRecDepth 1000000 in
set_option maxHeartbeats 4000000 in
theorem xText7_any (w : World) : Calls Tryz.prog 21 #[exV (numE 7)] w (R1 (.tuple #[.string ⟨#[55]⟩, .int .i64 0]) (Below w.heap.size w)) := by
  obtain ⟨W0, hW0⟩ : ∃ W0, w.alloc (.cells #[.int .i64 1, .int .i64 7, .int .i64 0, .slice none 0 0, .slice none 0 0, .slice none 0 0] 28) = W0 := ⟨_, rfl⟩
  obtain ⟨q, hq⟩ : ∃ q, w.heap.size = q := ⟨_, rfl⟩
  have hb0 : Below w.heap.size w W0 := by rw [← hW0]; exact one_allocB _ _
  have kx : Blk W0 q 28 #[.int .i64 1, .int .i64 7, .int .i64 0, .slice none 0 0, .slice none 0 0, .slice none 0 0] := by rw [← hW0]; exact Blk.newM _ _ _ _ hq
  have x0 : W0.cell? ⟨q, 0, none⟩ = some (.int .i64 1) := kx.cell 0
  have x1 : W0.cell? ⟨q, 1, none⟩ = some (.int .i64 7) := kx.cell 1
  have x2 : W0.cell? ⟨q, 2, none⟩ = some (.int .i64 0) := kx.cell 2
  have x3 : W0.cell? ⟨q, 3, none⟩ = some (.slice none 0 0) := kx.cell 3
  have x4 : W0.cell? ⟨q, 4, none⟩ = some (.slice none 0 0) := kx.cell 4
  have x5 : W0.cell? ⟨q, 5, none⟩ = some (.slice none 0 0) := kx.cell 5
  have HC := xcheckT_any (numE 7) W0 (numE_G ⟨by decide, by decide⟩ _) (by rw [numE_cnt]; decide)
  rw [numE_chk] at HC
  replace HC : Calls Tryz.prog 24 #[.agg #[.int .i64 1, .int .i64 7, .int .i64 0, .slice none 0 0, .slice none 0 0, .slice none 0 0]] W0 (R1 (.int .i64 0) (Below W0.heap.size W0)) := HC
  have HT := fun (w' : World) => text7_any w'
  replace HT : ∀ w' : World, Calls Tryz.prog 38 #[.agg #[.int .i64 1, .int .i64 7, .int .i64 0, .slice none 0 0, .slice none 0 0, .slice none 0 0]] w' (R1 (.string ⟨#[55]⟩) (Below w'.heap.size w')) := HT
  replace HC := Lib.hid HC
  replace HT := Lib.hid HT
  have HW0 := Lib.hid hW0
  have Hq := Lib.hid hq
  replace hb0 := Lib.hid hb0
  replace kx := Lib.hid kx
  clear hW0 hq
  show Calls Tryz.prog 21 #[.agg #[.int .i64 1, .int .i64 7, .int .i64 0, .slice none 0 0, .slice none 0 0, .slice none 0 0]] w _
  go_enter Tryz.func21, Tryz.ntmps21
  go_upto_region 1 with fail
  rw [HW0.out, Hq.out]
  go_wp2_with fail
  refine HC.out.mono ?_
  rintro e w1 ⟨rfl, hb1⟩
  have kx1 := kx.out.next hb1
  have y0 : w1.cell? ⟨q, 0, none⟩ = some (.int .i64 1) := kx1.cell 0
  have y1 : w1.cell? ⟨q, 1, none⟩ = some (.int .i64 7) := kx1.cell 1
  have y2 : w1.cell? ⟨q, 2, none⟩ = some (.int .i64 0) := kx1.cell 2
  have y3 : w1.cell? ⟨q, 3, none⟩ = some (.slice none 0 0) := kx1.cell 3
  have y4 : w1.cell? ⟨q, 4, none⟩ = some (.slice none 0 0) := kx1.cell 4
  have y5 : w1.cell? ⟨q, 5, none⟩ = some (.slice none 0 0) := kx1.cell 5
  replace hb1 := Lib.hid (bnext hb0.out hb1)
  clear x0 x1 x2 x3 x4 x5 kx1
  go_wp2_with fail
  refine (HT.out _).mono ?_
  rintro e w2 ⟨rfl, hb2⟩
  replace hb2 := Lib.hid (bnext hb1.out hb2)
  clear y0 y1 y2 y3 y4 y5
  go_wp2_with fail
  go_ret2
  exact R1.mk rfl hb2.out
set_option maxRecDepth 1000000 in
set_option maxHeartbeats 4000000 in
theorem exprs_any (w : World) : Calls Tryz.prog 11 #[] w (R1 (.bool true) (Below w.heap.size w)) := by
  have HT := fun (w' : World) => xText7_any w'
  replace HT : ∀ w' : World, Calls Tryz.prog 21 #[.agg #[.int .i64 1, .int .i64 7, .int .i64 0, .slice none 0 0, .slice none 0 0, .slice none 0 0]] w' (R1 (.tuple #[.string ⟨#[55]⟩, .int .i64 0]) (Below w'.heap.size w')) := HT
  replace HT := Lib.hid HT
  go_enter Tryz.func11, Tryz.ntmps11
  go_wp2_with fail
  refine (HT.out _).mono ?_
  rintro e w2 ⟨rfl, hb2⟩
  replace hb2 := Lib.hid hb2
  go_wp2_with fail
  go_ret
  exact R1.mk rfl hb2.out
end Go.Proofs.YtnicbhmeigpjkaaGreatDoor
