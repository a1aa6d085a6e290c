/- What the laws of package log begin with, and bytes.HasPrefix. Conditions: bytes are bytes. -/
import Derived.Test.YtkcfhfplppdnnaaFrame
import Derived.Test.YtkcfhfplppdnnaaBytes
namespace Go.Proofs.Ytkcfhfplppdnnaa
open Go.RowKit

set_option maxRecDepth 1000000 in
set_option maxHeartbeats 400000 in
theorem logs_true (w : World) : Calls Try.prog 17 #[] w (R1 (.bool true) (Below w.heap.size w)) := by
  have e9 : Hid (frameN [] = (frameL [], 0)) := Lib.hid rfl
  have e10 : Hid ((frameL []).length = 9) := Lib.hid (by unfold frameL; rw [List.length_append, List.length_append, be8_len, show ([] : List Nat).length = 0 from rfl, putL_small (by decide)]; rfl)
  go_enter Try.func17, Try.ntmps17
  go_wp2_with fail
  refine (frame_any none 0 0 [] rfl (by decide) (by intro x hx; simp at hx) _ (by intro hx; simp [u8s] at hx)).mono ?_
  rw [e9.out]
  rintro e w1 ⟨v, rfl, A, c, rfl, hown, hb⟩
  clear hown
  rw [e10.out]
  go_wp2_with fail
  go_ret
  exact R1.mk rfl hb
end Go.Proofs.Ytkcfhfplppdnnaa
