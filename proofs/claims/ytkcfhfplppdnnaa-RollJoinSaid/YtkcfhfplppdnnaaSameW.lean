/- What slices.Equal tells of two rows of windows. Conditions: none beyond the theorem's own hypotheses. -/
import Derived.Test.YtkcfhfplppdnnaaRoll
import Derived.Laws.StructEq
namespace Go.Proofs.Ytkcfhfplppdnnaa
open Go.RowKit

instance : DecidableEq Win := fun a b => if h : a.t = b.t ∧ a.n = b.n ∧ a.s = b.s ∧ a.lo = b.lo ∧ a.hi = b.hi ∧ a.f = b.f ∧ a.l = b.l then isTrue (by cases a; cases b; simp at h; simp [h]) else isFalse (fun e => h (by rw [e]; exact ⟨rfl, rfl, rfl, rfl, rfl, rfl, rfl⟩))
theorem eqW_of_at {l m : List Win} (hl : l.length = m.length) (h : ∀ i, i < l.length → at_ l i = at_ m i) : l = m := by
  apply List.ext_getElem hl
  intro i h1 h2
  have := h i h1
  rwa [at_eq h1, at_eq h2] at this

theorem foWin : Try.prog.fieldsOf 29 = #[{ name := "T", type := 2, offset := 0, embedded := false, tag := "", pkgPath := "", byteOffset := 0 }, { name := "N", type := 2, offset := 1, embedded := false, tag := "", pkgPath := "", byteOffset := 8 }, { name := "Sum", type := 2, offset := 2, embedded := false, tag := "", pkgPath := "", byteOffset := 16 }, { name := "Min", type := 2, offset := 3, embedded := false, tag := "", pkgPath := "", byteOffset := 24 }, { name := "Max", type := 2, offset := 4, embedded := false, tag := "", pkgPath := "", byteOffset := 32 }, { name := "First", type := 2, offset := 5, embedded := false, tag := "", pkgPath := "", byteOffset := 40 }, { name := "Last", type := 2, offset := 6, embedded := false, tag := "", pkgPath := "", byteOffset := 48 }] := by kernel_rfl
theorem shWin : Try.prog.stoodInHeld 29 = false := by kernel_rfl
theorem egWin : Try.prog.eqGuardType Try.prog.depth 29 = false := by kernel_rfl
theorem unWin : Try.prog.underlying 29 = some (.struct (Try.prog.fieldsOf 29)) := by kernel_rfl
theorem neqWin (w : World) (x y : Win) : (binOp .neq 29 (.agg #[.int .i64 x.t, .int .i64 x.n, .int .i64 x.s, .int .i64 x.lo, .int .i64 x.hi, .int .i64 x.f, .int .i64 x.l]) (.agg #[.int .i64 y.t, .int .i64 y.n, .int .i64 y.s, .int .i64 y.lo, .int .i64 y.hi, .int .i64 y.f, .int .i64 y.l])).run Try.prog w = .ok (.bool (!(decide (x = y)))) w := by
  rw [run_neq_struct, run_equalIn_struct w 9999 29 _ _ unWin shWin, foWin]
  have e : (x = y) ↔ (x.t = y.t ∧ x.n = y.n ∧ x.s = y.s ∧ x.lo = y.lo ∧ x.hi = y.hi ∧ x.f = y.f ∧ x.l = y.l) := by
    cases x; cases y; simp
  simp [Op.eqFields, go_sem]
  by_cases h1 : x.t = y.t <;> simp [h1, e]
  by_cases h2 : x.n = y.n <;> simp [h2]
  by_cases h3 : x.s = y.s <;> simp [h3]
  by_cases h4 : x.lo = y.lo <;> simp [h4]
  by_cases h5 : x.hi = y.hi <;> simp [h5]
  by_cases h6 : x.f = y.f <;> simp [h6]
  by_cases h7 : x.l = y.l <;> simp [h7]
theorem guardWin (w : World) (op : BinOp) (x y : Operand) (xs ys : Array Value) : (eqGuard op 29 x y (.agg xs) (.agg ys)).run Try.prog w = .ok () w := run_eqGuard_agg w op _ x y xs ys egWin

set_option maxRecDepth 1000000 in
set_option maxHeartbeats 1000000 in
theorem equalW_any (A B : Option Addr) (n m c d : Nat) (l k : List Win) (hn : l.length = n) (hm : k.length = m) (hl : n ≤ maxLen) (hk : m ≤ maxLen) (w : World) (h : Has w w.heap.size A (winCs l)) (h' : Has w w.heap.size B (winCs k)) :
    Calls Try.prog 36 #[.slice A n c, .slice B m d] w (R1 (.bool (decide (l = k))) (Drawn w)) := by
  unfold maxLen at hl hk
  have hq1 := neqWin
  have hq2 := guardWin
  by_cases hnm : n = m
  · subst hnm
    go_enter Try.func36, Try.ntmps36
    go_wp2
    go_loopw [13] (fun i wr => ∃ j : Nat, j ≤ n ∧ i = .int .i64 (j : Nat) ∧ Hid (∀ q, q < j → at_ l q = at_ k q) ∧ Drawn w wr) (fun i _ => n - (intOf i).toNat)
    case atStart => exact ⟨0, by omega, rfl, Lib.hid (fun q hq => by omega), Drawn.refl _⟩
    case round =>
      obtain ⟨j, hj, rfl, heq, nd, rfl⟩ := hrel
      by_cases hlt : (j : Int) < (n : Int)
      · obtain ⟨ad, rfl, _, c0, c1, c2, c3, c4, c5, c6⟩ := h.win (show j < l.length by omega)
        obtain ⟨bd, rfl, _, d0, d1, d2, d3, d4, d5, d6⟩ := h'.win (show j < k.length by omega)
        have q1 : (0 : Int) ≤ (j : Int) := by omega
        by_cases e : at_ l j = at_ k j
        · have f1 : (!(decide (at_ l j = at_ k j))) = false := by simp [e]
          have E := Lib.hid e; clear e
          go_wp2
          go_quiet (fail)
          go_wp2
          go_roundw
          case rel => exact ⟨j + 1, by omega, by go_num, Lib.hid (fun q hq => by rcases Nat.lt_or_ge q j with h1 | h1; exact heq.out q h1; rw [show q = j by omega]; exact E.out), _, rfl⟩
          case measure => simp [intOf]; omega
        · have f1 : (!(decide (at_ l j = at_ k j))) = true := by simp [e]
          have E := Lib.hid e; clear e
          go_wp2
          go_quiet (fail)
          go_wp2
          go_ret
          exact R1.mk (bool_eq (by rw [eq_comm, decide_eq_false_iff_not]; intro h1; exact E.out (by rw [h1]))) (Drawn.two _ _ _)
      · go_wp2
        go_ret
        exact R1.mk (bool_eq (by rw [eq_comm, decide_eq_true_iff]; exact eqW_of_at (by omega) (fun i hi => heq.out i (by omega)))) ⟨_, rfl⟩
  · have f0 : ((n : Int) != (m : Int)) = true := by rw [bne_iff_ne]; omega
    have E := Lib.hid hnm; clear hnm
    go_enter Try.func36, Try.ntmps36
    go_wp2
    go_ret
    exact R1.mk (bool_eq (by rw [eq_comm, decide_eq_false_iff_not]; intro h1; exact E.out (by rw [← hn, ← hm, h1]))) (Drawn.refl _)
end Go.Proofs.Ytkcfhfplppdnnaa
