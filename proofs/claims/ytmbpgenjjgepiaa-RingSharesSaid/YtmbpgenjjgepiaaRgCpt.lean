/- What slices.CompactFunc makes of a ring's places, where equal means of one token: of neighbours of one token the first stays. Conditions: the row is the call's own. -/
import Derived.Test.YtmbpgenjjgepiaaRgOwners
import Derived.Test.YtmbpgenjjgepiaaRgDel
import Derived.StillTailTactics
import Derived.Laws.OwnMore
namespace Go.Proofs.Ytmbpgenjjgepiaa
open Go.RowKit Go.Sort

/-- of the first k places those that stay -/
def ddP (P : List Plc) : Nat → List Plc
  | 0 => []
  | k + 1 => if k = 0 ∨ (at_ P k).t ≠ (at_ P (k - 1)).t then ddP P k ++ [at_ P k] else ddP P k
theorem ddP_le (P : List Plc) (k : Nat) : (ddP P k).length ≤ k := by
  induction k with
  | zero => exact Nat.le_refl _
  | succ k ih => unfold ddP; split; (rw [List.length_append]; simp; omega); omega

set_option maxRecDepth 1000000 in
set_option maxHeartbeats 1000000 in
theorem share1_any (x y : Plc) (w : World) : Calls Try.prog 29 #[.agg #[.int .u64 (x.t : Nat), .string x.nm], .agg #[.int .u64 (y.t : Nat), .string y.nm]] w (R1 (.bool (decide (x.t = y.t))) (Below w.heap.size w)) := by
  obtain ⟨a, s⟩ := x
  obtain ⟨b, t⟩ := y
  obtain ⟨W1, hW1⟩ : ∃ W1, (w.alloc (.cells #[.int .u64 (a : Nat), .string s] 57)).alloc (.cells #[.int .u64 (b : Nat), .string t] 57) = W1 := ⟨_, rfl⟩
  have hb : Below w.heap.size w W1 := by rw [← hW1]; exact bnext (one_alloc w _) (one_alloc _ _)
  have ka : Blk W1 w.heap.size 57 #[.int .u64 (a : Nat), .string s] := by rw [← hW1]; exact (Blk.new _ _ _).alloc _
  have kb : Blk W1 (w.heap.size + 1) 57 #[.int .u64 (b : Nat), .string t] := by
    rw [← hW1]
    have h := Blk.new (w.alloc (.cells #[.int .u64 (a : Nat), .string s] 57)) 57 #[.int .u64 (b : Nat), .string t]
    rw [World.size_alloc] at h
    exact h
  have HW := Lib.hid hW1
  clear hW1
  have y0 : W1.cell? ⟨w.heap.size, 0, none⟩ = some (.int .u64 (a : Nat)) := ka.cell 0
  have y1 : W1.cell? ⟨w.heap.size + 1, 0, none⟩ = some (.int .u64 (b : Nat)) := kb.cell 0
  by_cases e : a = b
  · have f1 : ((a : Int) == (b : Int)) = true := by rw [beq_iff_eq]; omega
    have E := Lib.hid (show decide (a = b) = true from decide_eq_true e)
    rw [E.out]
    clear e
    go_enter Try.func29, Try.ntmps29
    go_wp2_with fail
    rw [HW.out]
    go_wp2_with fail
    go_ret
    exact R1.mk (by first | rfl | simp [E.out]) hb
  · have f1 : ((a : Int) == (b : Int)) = false := by rw [beq_eq_false_iff_ne]; omega
    have E := Lib.hid (show decide (a = b) = false from decide_eq_false e)
    rw [E.out]
    clear e
    go_enter Try.func29, Try.ntmps29
    go_wp2_with fail
    rw [HW.out]
    go_wp2_with fail
    go_ret
    exact R1.mk (by first | rfl | simp [E.out]) hb
end Go.Proofs.Ytmbpgenjjgepiaa
