/- What Len64, LeadingZeros64 and TrailingZeros64 of package math/bits answer. Conditions: a number of 64 bits; the table of de Bruijn lies in its cells. -/
import Derived.Test.YtmbpgenjjgepiaaDoorXorLaw
import Derived.Test.YtmbpgenjjgepiaaDoorLen64
import Derived.Test.YtmbpgenjjgepiaaDoorKit
import Derived.Lib.Walk
import Derived.Lib.Small
import Derived.Lib.BitFns
import Derived.Lib.TrailingZeros
import Derived.Laws.Bits64b
namespace Go.Proofs.YtmbpgenjjgepiaaDoor
open Go.RowKit

theorem lead_any (x : Nat) (hx : x < 18446744073709551616) (w : World) :
    Calls Tryd.prog 25 #[.int .u64 x] w (R1 (.int .i64 (xlead x : Nat)) (fun w' => w' = w)) := by
  have l : Lib.bitLen x ≤ 64 := Lib.bitLen_le x 64 (by omega) (by omega)
  have e8 : IntKind.i64.wrap (64 - (Lib.bitLen x : Int)) = ((xlead x : Nat) : Int) := by rw [IntWalk.i64_in _ (by omega)]; unfold xlead; omega
  go_enter Tryd.func25, Tryd.ntmps25
  go_wp2_with (go_at_call 34; refine (len64_any x _ (by omega) (by omega)).mono ?_; rintro e w' ⟨rfl, rfl⟩)
  go_ret
  exact R1.mk (by rw [← e8]; rfl) rfl
/-- the table in its cells -/
def DebAt (w : World) : Prop := ∀ j, j < 64 → w.cell? ⟨1, j, none⟩ = some (.int .u8 (Lib.deBruijn64tab.getD j 0))
theorem DebAt.below {w w' : World} {B : Nat} (h : DebAt w) (hB : 1 < B) (hb : Below B w w') : DebAt w' := fun j hj => (hb.cell (p := ⟨1, j, none⟩) hB).trans (h j hj)
theorem tz_key (x a : Nat) (hx : x < 18446744073709551616) (hx0 : x ≠ 0) (hlow : x &&& (18446744073709551616 - x) = a) :
    IntKind.u64.wrap (bits BinOp.and IntKind.u64 (x : Int) (IntKind.u64.wrap (-(x : Int))) * 285870213051353865) / 288230376151711744 = ((a * 285870213051353865 % 18446744073709551616 / 288230376151711744 : Nat) : Int) := by
  have e1 : IntKind.u64.wrap (-(x : Int)) = ((18446744073709551616 - x : Nat) : Int) := by rw [IntKind.wrap_u64]; omega
  rw [e1, bits_and_u64_nat x _ hx (by omega), hlow, IntKind.wrap_u64]
  omega
set_option maxHeartbeats 1000000 in
theorem tz_core (x k idx : Nat) (w : World) (hx0 : ((x : Int) == 0) = false)
    (key : IntKind.u64.wrap (bits BinOp.and IntKind.u64 (x : Int) (IntKind.u64.wrap (-(x : Int))) * 285870213051353865) / 288230376151711744 = (idx : Int))
    (hi : idx < 64) (hk : k < 64) (hcell : w.cell? ⟨1, idx, none⟩ = some (.int .u8 k)) :
    Calls Tryd.prog 26 #[.int .u64 x] w (R1 (.int .i64 (k : Nat)) (fun w' => w' = w)) := by
  go_enter Tryd.func26, Tryd.ntmps26
  go_wp2_with (simp only [key])
  go_ret
  exact R1.mk rfl rfl
theorem tail_any (x : Nat) (h0 : x ≠ 0) (hx : x < 18446744073709551616) (w : World) (hT : DebAt w) :
    Calls Tryd.prog 26 #[.int .u64 x] w (R1 (.int .i64 (xtail x : Nat)) (fun w' => w' = w)) := by
  obtain ⟨hlow, hk⟩ := Lib.lowest_bit 64 x h0 (by omega)
  obtain ⟨hi, htab⟩ := Lib.deBruijn64_at _ hk
  have hcell := hT _ hi
  rw [htab] at hcell
  exact tz_core x _ _ w (by simp; omega) (tz_key x _ hx h0 hlow) hi hk hcell
/-- how many bits a window leaves -/
theorem size_any (s : Bool) (a b : Int) (ha : 0 ≤ a) (ha2 : a ≤ 64) (hb : -64 ≤ b) (hb2 : b ≤ 64) (w : World) :
    Calls Tryd.prog 27 #[.agg #[.bool s, .int .i64 a, .int .i64 b]] w (R1 (.int .i64 (64 - a - b)) (fun w' => w' = w.alloc (.cells #[.bool s, .int .i64 a, .int .i64 b] 65))) := by
  have e1 : IntKind.i64.wrap (64 - a) = 64 - a := IntWalk.i64_in _ (by omega)
  have e2 : IntKind.i64.wrap (64 - a - b) = 64 - a - b := IntWalk.i64_in _ (by omega)
  have k0 := Blk.new w 65 #[.bool s, .int .i64 a, .int .i64 b]
  have c1 : (w.alloc (.cells #[.bool s, .int .i64 a, .int .i64 b] 65)).cell? ⟨w.heap.size, 1, none⟩ = some (.int .i64 a) := k0.cell 1
  have c2 : (w.alloc (.cells #[.bool s, .int .i64 a, .int .i64 b] 65)).cell? ⟨w.heap.size, 2, none⟩ = some (.int .i64 b) := k0.cell 2
  go_enter Tryd.func27, Tryd.ntmps27
  go_wp2_with fail
  go_ret
  exact R1.mk rfl rfl
end Go.Proofs.YtmbpgenjjgepiaaDoor
