/- What slices.Equal tells of two rows of samples. Conditions: none beyond the theorem's own hypotheses. -/
import Derived.Test.YtmbpgenjjgepiaaDoorOpen
import Derived.Laws.StructEq
namespace Go.Proofs.YtmbpgenjjgepiaaDoor
open Go.RowKit

theorem eq_of_at {α : Type} [Inhabited α] {l m : List α} (hl : l.length = m.length) (h : ∀ i, i < l.length → at_ l i = at_ m i) : l = m := by
  apply List.ext_getElem hl
  intro i h1 h2
  have := h i h1
  rwa [at_eq h1, at_eq h2] at this

theorem foSmp : Tryd.prog.fieldsOf 40 = #[{ name := "T", type := 2, offset := 0, embedded := false, tag := "", pkgPath := "", byteOffset := 0 }, { name := "V", type := 2, offset := 1, embedded := false, tag := "", pkgPath := "", byteOffset := 8 }] := by kernel_rfl
theorem shSmp : Tryd.prog.stoodInHeld 40 = false := by kernel_rfl
theorem egSmp : Tryd.prog.eqGuardType Tryd.prog.depth 40 = false := by kernel_rfl
theorem unSmp : Tryd.prog.underlying 40 = some (.struct (Tryd.prog.fieldsOf 40)) := by kernel_rfl
theorem neqSmp (w : World) (a b c d : Int) : (binOp .neq 40 (.agg #[.int .i64 a, .int .i64 b]) (.agg #[.int .i64 c, .int .i64 d])).run Tryd.prog w = .ok (.bool (!(a == c && b == d))) w := by
  rw [run_neq_struct, run_equalIn_struct w 9999 40 _ _ unSmp shSmp, foSmp]
  simp [Op.eqFields, go_sem]
  by_cases h1 : a = c <;> by_cases h2 : b = d <;> simp [h1, h2]
theorem guardSmp (w : World) (op : BinOp) (x y : Operand) (xs ys : Array Value) : (eqGuard op 40 x y (.agg xs) (.agg ys)).run Tryd.prog w = .ok () w := run_eqGuard_agg w op _ x y xs ys egSmp

set_option maxRecDepth 1000000 in
set_option maxHeartbeats 1000000 in
theorem equalS_any (A B : Option Addr) (n m c d : Nat) (l k : List Smp) (hn : l.length = n) (hm : k.length = m) (hl : n ≤ maxLen) (hk : m ≤ maxLen) (w : World) (h : Has w w.heap.size A (smpCs l)) (h' : Has w w.heap.size B (smpCs k)) :
    Calls Tryd.prog 19 #[.slice A n c, .slice B m d] w (R1 (.bool (decide (l = k))) (Drawn w)) := by
  unfold maxLen at hl hk
  have hq1 := neqSmp
  have hq2 := guardSmp
  by_cases hnm : n = m
  · subst hnm
    go_enter Tryd.func19, Tryd.ntmps19
    go_wp2
    go_loopw [13] (fun i wr => ∃ j : Nat, j ≤ n ∧ i = .int .i64 (j : Nat) ∧ Hid (∀ q, q < j → at_ l q = at_ k q) ∧ Drawn w wr) (fun i _ => n - (intOf i).toNat)
    case atStart => exact ⟨0, by omega, rfl, Lib.hid (fun q hq => by omega), Drawn.refl _⟩
    case round =>
      obtain ⟨j, hj, rfl, heq, nd, rfl⟩ := hrel
      by_cases hlt : (j : Int) < (n : Int)
      · obtain ⟨ad, rfl, _, c1⟩ := h.at (smpCs_t (show j < l.length by omega))
        obtain ⟨ad', e, _, c2⟩ := h.at (smpCs_v (show j < l.length by omega))
        injection e with e
        subst e
        obtain ⟨bd, rfl, _, c3⟩ := h'.at (smpCs_t (show j < k.length by omega))
        obtain ⟨bd', e, _, c4⟩ := h'.at (smpCs_v (show j < k.length by omega))
        injection e with e
        subst e
        have c2 := cell_off c2 (by decide)
        have c4 := cell_off c4 (by decide)
        have q1 : (0 : Int) ≤ (j : Int) := by omega
        by_cases e : at_ l j = at_ k j
        · have f1 : (!((at_ l j).t == (at_ k j).t && (at_ l j).v == (at_ k j).v)) = false := by rw [e]; simp
          have E := Lib.hid e; clear e
          go_wp2
          go_quiet (fail)
          go_wp2
          go_roundw
          case rel => exact ⟨j + 1, by omega, by go_num, Lib.hid (fun q hq => by rcases Nat.lt_or_ge q j with h1 | h1; exact heq.out q h1; rw [show q = j by omega]; exact E.out), _, rfl⟩
          case measure => simp [intOf]; omega
        · have f1 : (!((at_ l j).t == (at_ k j).t && (at_ l j).v == (at_ k j).v)) = true := by
            rw [Bool.not_eq_true']
            cases hb : ((at_ l j).t == (at_ k j).t && (at_ l j).v == (at_ k j).v)
            · rfl
            · simp only [Bool.and_eq_true, beq_iff_eq] at hb
              exact absurd (by cases hx : at_ l j; cases hy : at_ k j; rw [hx, hy] at hb; simp at hb; simp [hb]) e
          have E := Lib.hid e; clear e
          go_wp2
          go_quiet (fail)
          go_wp2
          go_ret
          exact R1.mk (bool_eq (by rw [eq_comm, decide_eq_false_iff_not]; intro h1; exact E.out (by rw [h1]))) (Drawn.two _ _ _)
      · go_wp2
        go_ret
        exact R1.mk (bool_eq (by rw [eq_comm, decide_eq_true_iff]; exact eq_of_at (by omega) (fun i hi => heq.out i (by omega)))) ⟨_, rfl⟩
  · have f0 : ((n : Int) != (m : Int)) = true := by rw [bne_iff_ne]; omega
    have E := Lib.hid hnm; clear hnm
    go_enter Tryd.func19, Tryd.ntmps19
    go_wp2
    go_ret
    exact R1.mk (bool_eq (by rw [eq_comm, decide_eq_false_iff_not]; intro h1; exact E.out (by rw [← hn, ← hm, h1]))) (Drawn.refl _)

set_option maxRecDepth 1000000 in
theorem same_any (A B : Option Addr) (n m c d : Nat) (l k : List Smp) (hn : l.length = n) (hm : k.length = m) (hl : n ≤ maxLen) (hk : m ≤ maxLen) (w : World) (h : Has w w.heap.size A (smpCs l)) (h' : Has w w.heap.size B (smpCs k)) :
    Calls Tryd.prog 8 #[.slice A n c, .slice B m d] w (R1 (.bool (decide (l = k))) (Drawn w)) := by
  go_enter Tryd.func8, Tryd.ntmps8
  go_wp2_with fail
  refine (equalS_any A B n m c d l k hn hm hl hk _ (by exact h) (by exact h')).mono ?_
  rintro e w1 ⟨rfl, n1, rfl⟩
  go_wp2_with fail
  go_ret
  exact R1.mk rfl ⟨_, rfl⟩
end Go.Proofs.YtmbpgenjjgepiaaDoor
