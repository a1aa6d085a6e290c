/- A write by an elder epoch changes nothing; the comparison of two views of a hand. Conditions: the hand's own. -/
import Derived.Test.YtnppgocedokioaaHandAc
import Derived.Laws.StructEq
namespace Go.Proofs.Ytnppgocedokioaa
open Go.RowKit

set_option maxRecDepth 1000000 in
set_option maxHeartbeats 1000000 in
theorem write_stale (S : Nat → Prop) (g : Nat) (s : Hnd) (hk : OkH s) (ep id : Int) (he : ep ≠ s.ep) (w : World) (h : HSt w S g s) :
    Calls Try.prog 29 #[.pointer (some ⟨g, 0, none⟩), .int .i64 ep, .int .i64 id] w (R1 (.int .i64 10) (· = w)) := by
  obtain ⟨A, N, L, a, n, l, h⟩ := h
  obtain ⟨m, hm⟩ : ∃ m, s.has.length = m := ⟨_, rfl⟩
  have hm1000 : m ≤ 1000 := by rw [← hm]; exact hk.len
  have hown := h.has
  unfold rowI at hown
  rw [hm] at hown
  have H := Lib.hid (bins_any A m a s.has hm (by omega) hk.up id w (Has.of_own hown))
  have c0 : w.cell? ⟨g, 0, none⟩ = some (.int .i64 s.ep) := h.blk.cell 0
  have c3 : w.cell? ⟨g, 3, none⟩ = some (.slice A m a) := by rw [← hm]; exact h.blk.cell 3
  have f1 : (ep != s.ep) = true := by rw [bne_iff_ne]; exact he
  clear h hown hm
  go_enter Try.func29, Try.ntmps29
  go_wp2_with fail
  refine (H.out).mono ?_
  rintro e w1 ⟨v, rfl, ⟨i, rfl, hp⟩, hw⟩
  rw [hw]
  clear hp
  go_wp2_with fail
  go_ret
  exact R1.mk rfl rfl

theorem shHand : Try.prog.stoodInHeld 52 = false := by kernel_rfl
theorem egHand : Try.prog.eqGuardType Try.prog.depth 52 = false := by kernel_rfl
theorem unHand : Try.prog.underlying 52 = some (.struct (Try.prog.fieldsOf 52)) := by kernel_rfl
theorem foHand : ∃ a0 a1 a2 a3 : Nat, Try.prog.fieldsOf 52 = #[{ name := "Epoch", type := 2, offset := 0, embedded := false, tag := "", pkgPath := "", byteOffset := a0 }, { name := "Owner", type := 9, offset := 1, embedded := false, tag := "", pkgPath := "", byteOffset := a1 }, { name := "To", type := 9, offset := 2, embedded := false, tag := "", pkgPath := "", byteOffset := a2 }, { name := "Left", type := 3, offset := 3, embedded := false, tag := "", pkgPath := "", byteOffset := a3 }] := ⟨0, 8, 24, 40, by kernel_rfl⟩
theorem eqHand (w : World) (s : Hnd) : (binOp .eql 52 (.agg (viewA s)) (.agg (viewA s))).run Try.prog w = .ok (.bool true) w := by
  obtain ⟨a0, a1, a2, a3, hf⟩ := foHand
  rw [run_eql_struct, run_equalIn_struct w 9999 52 _ _ unHand shHand, hf]
  simp [Op.eqFields, go_sem, viewA]
theorem guardHand (w : World) (op : BinOp) (x y : Operand) (xs ys : Array Value) : (eqGuard op 52 x y (.agg xs) (.agg ys)).run Try.prog w = .ok () w := run_eqGuard_agg w op _ x y xs ys egHand
end Go.Proofs.Ytnppgocedokioaa
