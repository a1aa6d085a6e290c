/- What bytes.HasPrefix tells. Conditions: bytes are bytes. -/
import Derived.Test.YtkcfhfplppdnnaaBytes
import Derived.Test.YtkcfhfplppdnnaaFirst
namespace Go.Proofs.Ytkcfhfplppdnnaa
open Go.RowKit

set_option maxRecDepth 1000000 in
set_option maxHeartbeats 400000 in
theorem hasPre_any (A A' : Option Addr) (n n' c c' : Nat) (l l' : List Nat) (hb : Bytes l) (hb' : Bytes l') (hl : l.length = n) (hl' : l'.length = n') (hnc : n ≤ c) (w : World) (h : Has w w.heap.size A (u8s l)) (h' : Has w w.heap.size A' (u8s l')) :
    Calls Try.prog 38 #[.slice A n c, .slice A' n' c'] w (R1 (.bool (decide (l.take l'.length = l'))) (Drawn w)) := by
  by_cases hle : (n' : Int) ≤ (n : Int)
  · have hq : (n' : Int) ≤ (c : Int) := by omega
    go_enter Try.func38, Try.ntmps38
    go_wp2_with fail
    refine (bytesEqual_any A A' n' n' c c' (l.take l'.length) l' (fun y hy => hb y (List.mem_of_mem_take hy)) hb' (by rw [List.length_take]; omega) hl' _ (by exact takeU8 h _) (by exact h')).mono ?_
    rintro e w1 ⟨rfl, n1, rfl⟩
    go_wp2_with fail
    go_ret
    exact R1.mk (bool_eq (by rw [hl'])) ⟨_, rfl⟩
  · have E := Lib.hid (show (decide (l.take l'.length = l')) = false by
      rw [decide_eq_false_iff_not]; intro h; have := congrArg List.length h; rw [List.length_take] at this; omega)
    rw [E.out]
    go_enter Try.func38, Try.ntmps38
    go_wp2_with fail
    go_ret
    exact R1.mk rfl (Drawn.refl _)
end Go.Proofs.Ytkcfhfplppdnnaa
