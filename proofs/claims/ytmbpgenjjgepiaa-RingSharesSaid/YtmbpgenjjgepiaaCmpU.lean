/- What cmp.Compare at uint64 and cmp.Or tell of numbers. Conditions: rows lie in their cells. -/
import Derived.Test.YtmbpgenjjgepiaaI64s
namespace Go.Proofs.Ytmbpgenjjgepiaa
open Go.RowKit

def cmpI (a b : Int) : Int := if a < b then -1 else if b < a then 1 else 0
def orL : List Int → Int
  | [] => 0
  | a :: l => if a ≠ 0 then a else orL l

set_option maxRecDepth 1000000 in
theorem isNaNU_any (x : Nat) (w : World) : Calls Try.prog 51 #[.int .u64 x] w (R1 (.bool false) (fun w' => w' = w)) := by
  have e : ((x : Int) != (x : Int)) = false := by simp
  go_enter Try.func51, Try.ntmps51
  go_wp2_with fail
  go_ret
  exact R1.mk (by simp) rfl
set_option maxRecDepth 1000000 in
set_option maxHeartbeats 1000000 in
theorem compareU_any (x y : Nat) (w : World) : Calls Try.prog 42 #[.int .u64 x, .int .u64 y] w (R1 (.int .i64 (cmpI x y)) (fun w' => w' = w)) := by
  rcases (show (x : Int) < y ∨ (y : Int) < x ∨ (x : Int) = y by omega) with h | h | h
  · have e := Lib.hid (show cmpI x y = -1 by unfold cmpI; rw [if_pos h])
    go_enter Try.func42, Try.ntmps42
    go_wp2_with fail
    refine (isNaNU_any _ _).mono ?_
    rintro e1 w1 ⟨rfl, rfl⟩
    go_wp2_with fail
    refine (isNaNU_any _ _).mono ?_
    rintro e1 w2 ⟨rfl, rfl⟩
    go_wp2_with fail
    go_ret
    exact R1.mk (int_eq e.out.symm) rfl
  · have e := Lib.hid (show cmpI x y = 1 by unfold cmpI; rw [if_neg (by omega), if_pos h])
    have h1 : ¬ (x : Int) < y := by omega
    go_enter Try.func42, Try.ntmps42
    go_wp2_with fail
    refine (isNaNU_any _ _).mono ?_
    rintro e1 w1 ⟨rfl, rfl⟩
    go_wp2_with fail
    refine (isNaNU_any _ _).mono ?_
    rintro e1 w2 ⟨rfl, rfl⟩
    go_wp2_with fail
    go_ret
    exact R1.mk (int_eq e.out.symm) rfl
  · have e := Lib.hid (show cmpI x y = 0 by unfold cmpI; rw [if_neg (by omega), if_neg (by omega)])
    have h1 : ¬ (x : Int) < y := by omega
    have h2 : ¬ (y : Int) < x := by omega
    clear h
    go_enter Try.func42, Try.ntmps42
    go_wp2_with fail
    refine (isNaNU_any _ _).mono ?_
    rintro e1 w1 ⟨rfl, rfl⟩
    go_wp2_with fail
    refine (isNaNU_any _ _).mono ?_
    rintro e1 w2 ⟨rfl, rfl⟩
    go_wp2_with fail
    go_ret
    exact R1.mk (int_eq e.out.symm) rfl
theorem cmpI_cases (a b : Int) : cmpI a b = -1 ∨ cmpI a b = 0 ∨ cmpI a b = 1 := by
  unfold cmpI; split
  · exact .inl rfl
  · split
    · exact .inr (.inr rfl)
    · exact .inr (.inl rfl)
set_option maxRecDepth 1000000 in
set_option maxHeartbeats 2000000 in
theorem orInts_any (A : Option Addr) (n c : Nat) (l : List Int) (hn : l.length = n) (hl : n ≤ 1000) (w : World) (h : Has w w.heap.size A (i64s l)) :
    Calls Try.prog 41 #[.slice A n c] w (R1 (.int .i64 (orL l)) (fun w' => w' = w)) := by
  have Hn := Lib.hid hn; clear hn
  go_enter Try.func41, Try.ntmps41
  go_wp2_with fail
  go_loopw [8] (fun i wr => ∃ j : Nat, j ≤ n ∧ i = .int .i64 (j : Nat) ∧ Hid (orL l = orL (l.drop j)) ∧ wr = w) (fun i _ => n - (intOf i).toNat)
  case atStart => exact ⟨0, by omega, rfl, Lib.hid rfl, rfl⟩
  case round =>
    obtain ⟨j, hj, rfl, heq, rfl⟩ := hrel
    by_cases hlt : (j : Int) < (n : Int)
    · obtain ⟨ad, rfl, _, c1⟩ := h.at (i64s_at (show j < l.length by rw [Hn.out]; omega))
      have hst := Lib.hid (show orL l = if at_ l j ≠ 0 then at_ l j else orL (l.drop (j + 1)) by rw [heq.out, drop_at (show j < l.length by rw [Hn.out]; omega)]; rfl)
      obtain ⟨z, hz⟩ : ∃ z, at_ l j = z := ⟨_, rfl⟩
      rw [hz] at hst c1
      clear hz
      by_cases h0 : z = 0
      · subst h0
        go_wp2_with fail
        go_roundw
        case rel => exact ⟨j + 1, by omega, by go_num, Lib.hid (by rw [hst.out, if_neg (by simp)]), by trivial⟩
        case measure => simp [intOf]; omega
      · have h1 : (z != 0) = true := by rw [bne_iff_ne]; exact h0
        have e := Lib.hid (show orL l = z by rw [hst.out, if_pos h0])
        go_wp2_with fail
        go_ret
        exact R1.mk (int_eq e.out.symm) rfl
    · have e1 := Lib.hid (show orL l = 0 by rw [heq.out, List.drop_eq_nil_of_le (show l.length ≤ j by rw [Hn.out]; omega)]; rfl)
      go_wp2_with fail
      go_ret
      exact R1.mk (int_eq e1.out.symm) rfl
end Go.Proofs.Ytmbpgenjjgepiaa
