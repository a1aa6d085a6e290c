/- What sameBits answers. Conditions: bytes are bytes. -/
import Derived.Test.YtkcfhfplppdnnaaDoorBytes
namespace Go.Proofs.YtkcfhfplppdnnaaDoor
open Go.RowKit

set_option maxRecDepth 1000000 in
set_option maxHeartbeats 1000000 in
theorem sameBits_any (A B : Option Addr) (n m c d : Nat) (l k : List Nat) (hln : l.length = n) (hkm : k.length = m) (N M : Int) (hb : Bytes l) (hb' : Bytes k) (w : World) (h : Has w w.heap.size A (u8s l)) (h' : Has w w.heap.size B (u8s k)) :
    Calls Tryd.prog 16 #[.agg #[.slice A n c, .int .i64 N], .agg #[.slice B m d, .int .i64 M]] w (R1 (.bool (decide (N = M) && decide (l = k))) (Below w.heap.size w)) := by
  have hbx : Below w.heap.size w ((w.alloc (.cells #[.slice A n c, .int .i64 N] 26)).alloc (.cells #[.slice B m d, .int .i64 M] 26)) := ((Below.refl _ _).alloc (Nat.le_refl _) _).alloc (by simp) _
  by_cases hNM : N = M
  · subst hNM
    go_enter Tryd.func16, Tryd.ntmps16
    go_wp2_with fail
    refine (bytesEqual_any A B n m c d l k hb hb' hln hkm _ (by exact h.next hbx) (by exact h'.next hbx)).mono ?_
    rintro e w1 ⟨rfl, n1, rfl⟩
    go_wp2_with fail
    go_ret
    exact R1.mk (by simp) (below_drewN hbx _)
  · have f1 : (N == M) = false := by rw [beq_eq_false_iff_ne]; exact hNM
    rw [show (decide (N = M) && decide (l = k)) = false by rw [decide_eq_false hNM]; rfl]
    go_enter Tryd.func16, Tryd.ntmps16
    go_wp2_with fail
    go_ret
    exact R1.mk rfl hbx
end Go.Proofs.YtkcfhfplppdnnaaDoor
