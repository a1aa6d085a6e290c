/- What cmp.Compare, cmp.Or and slices.Compare tell of numbers. Conditions: rows lie in their cells. -/
import Derived.Test.YtokilodekbjpnaaU64s
import Derived.Test.YtokilodekbjpnaaGood
namespace Go.Proofs.Ytokilodekbjpnaa
open Go.RowKit

def cmpI (a b : Int) : Int := if a < b then -1 else if b < a then 1 else 0
def cmpL : List Nat → List Nat → Int
  | [], [] => 0
  | [], _ :: _ => -1
  | _ :: _, [] => 1
  | a :: l, b :: m => if cmpI a b ≠ 0 then cmpI a b else cmpL l m
def orL : List Int → Int
  | [] => 0
  | a :: l => if a ≠ 0 then a else orL l

set_option maxRecDepth 1000000 in
theorem isNaNI_any (x : Int) (w : World) : Calls Try.prog 70 #[.int .i64 x] w (R1 (.bool false) (fun w' => w' = w)) := by
  have e : ((x : Int) != (x : Int)) = false := by simp
  go_enter Try.func70, Try.ntmps70
  go_wp2_with fail
  go_ret
  exact R1.mk (by simp) rfl
set_option maxRecDepth 1000000 in
set_option maxHeartbeats 1000000 in
theorem compareI_any (x y : Int) (w : World) : Calls Try.prog 46 #[.int .i64 x, .int .i64 y] w (R1 (.int .i64 (cmpI x y)) (fun w' => w' = w)) := by
  rcases (show (x : Int) < y ∨ (y : Int) < x ∨ (x : Int) = y by omega) with h | h | h
  · have e := Lib.hid (show cmpI x y = -1 by unfold cmpI; rw [if_pos h])
    go_enter Try.func46, Try.ntmps46
    go_wp2_with fail
    refine (isNaNI_any _ _).mono ?_
    rintro e1 w1 ⟨rfl, rfl⟩
    go_wp2_with fail
    refine (isNaNI_any _ _).mono ?_
    rintro e1 w2 ⟨rfl, rfl⟩
    go_wp2_with fail
    go_ret
    exact R1.mk (int_eq e.out.symm) rfl
  · have e := Lib.hid (show cmpI x y = 1 by unfold cmpI; rw [if_neg (by omega), if_pos h])
    have h1 : ¬ (x : Int) < y := by omega
    go_enter Try.func46, Try.ntmps46
    go_wp2_with fail
    refine (isNaNI_any _ _).mono ?_
    rintro e1 w1 ⟨rfl, rfl⟩
    go_wp2_with fail
    refine (isNaNI_any _ _).mono ?_
    rintro e1 w2 ⟨rfl, rfl⟩
    go_wp2_with fail
    go_ret
    exact R1.mk (int_eq e.out.symm) rfl
  · have e := Lib.hid (show cmpI x y = 0 by unfold cmpI; rw [if_neg (by omega), if_neg (by omega)])
    have h1 : ¬ (x : Int) < y := by omega
    have h2 : ¬ (y : Int) < x := by omega
    clear h
    go_enter Try.func46, Try.ntmps46
    go_wp2_with fail
    refine (isNaNI_any _ _).mono ?_
    rintro e1 w1 ⟨rfl, rfl⟩
    go_wp2_with fail
    refine (isNaNI_any _ _).mono ?_
    rintro e1 w2 ⟨rfl, rfl⟩
    go_wp2_with fail
    go_ret
    exact R1.mk (int_eq e.out.symm) rfl
set_option maxRecDepth 1000000 in
theorem isNaNN_any (x : Int) (w : World) : Calls Try.prog 71 #[.int .i64 x] w (R1 (.bool false) (fun w' => w' = w)) := by
  have e : ((x : Int) != (x : Int)) = false := by simp
  go_enter Try.func71, Try.ntmps71
  go_wp2_with fail
  go_ret
  exact R1.mk (by simp) rfl
set_option maxRecDepth 1000000 in
set_option maxHeartbeats 1000000 in
theorem compareN_any (x y : Int) (w : World) : Calls Try.prog 47 #[.int .i64 x, .int .i64 y] w (R1 (.int .i64 (cmpI x y)) (fun w' => w' = w)) := by
  rcases (show (x : Int) < y ∨ (y : Int) < x ∨ (x : Int) = y by omega) with h | h | h
  · have e := Lib.hid (show cmpI x y = -1 by unfold cmpI; rw [if_pos h])
    go_enter Try.func47, Try.ntmps47
    go_wp2_with fail
    refine (isNaNN_any _ _).mono ?_
    rintro e1 w1 ⟨rfl, rfl⟩
    go_wp2_with fail
    refine (isNaNN_any _ _).mono ?_
    rintro e1 w2 ⟨rfl, rfl⟩
    go_wp2_with fail
    go_ret
    exact R1.mk (int_eq e.out.symm) rfl
  · have e := Lib.hid (show cmpI x y = 1 by unfold cmpI; rw [if_neg (by omega), if_pos h])
    have h1 : ¬ (x : Int) < y := by omega
    go_enter Try.func47, Try.ntmps47
    go_wp2_with fail
    refine (isNaNN_any _ _).mono ?_
    rintro e1 w1 ⟨rfl, rfl⟩
    go_wp2_with fail
    refine (isNaNN_any _ _).mono ?_
    rintro e1 w2 ⟨rfl, rfl⟩
    go_wp2_with fail
    go_ret
    exact R1.mk (int_eq e.out.symm) rfl
  · have e := Lib.hid (show cmpI x y = 0 by unfold cmpI; rw [if_neg (by omega), if_neg (by omega)])
    have h1 : ¬ (x : Int) < y := by omega
    have h2 : ¬ (y : Int) < x := by omega
    clear h
    go_enter Try.func47, Try.ntmps47
    go_wp2_with fail
    refine (isNaNN_any _ _).mono ?_
    rintro e1 w1 ⟨rfl, rfl⟩
    go_wp2_with fail
    refine (isNaNN_any _ _).mono ?_
    rintro e1 w2 ⟨rfl, rfl⟩
    go_wp2_with fail
    go_ret
    exact R1.mk (int_eq e.out.symm) rfl
set_option maxRecDepth 1000000 in
theorem isNaNU_any (x : Nat) (w : World) : Calls Try.prog 88 #[.int .u64 x] w (R1 (.bool false) (fun w' => w' = w)) := by
  have e : ((x : Int) != (x : Int)) = false := by simp
  go_enter Try.func88, Try.ntmps88
  go_wp2_with fail
  go_ret
  exact R1.mk (by simp) rfl
set_option maxRecDepth 1000000 in
set_option maxHeartbeats 1000000 in
theorem compareU_any (x y : Nat) (w : World) : Calls Try.prog 72 #[.int .u64 x, .int .u64 y] w (R1 (.int .i64 (cmpI x y)) (fun w' => w' = w)) := by
  rcases (show (x : Int) < y ∨ (y : Int) < x ∨ (x : Int) = y by omega) with h | h | h
  · have e := Lib.hid (show cmpI x y = -1 by unfold cmpI; rw [if_pos h])
    go_enter Try.func72, Try.ntmps72
    go_wp2_with fail
    refine (isNaNU_any _ _).mono ?_
    rintro e1 w1 ⟨rfl, rfl⟩
    go_wp2_with fail
    refine (isNaNU_any _ _).mono ?_
    rintro e1 w2 ⟨rfl, rfl⟩
    go_wp2_with fail
    go_ret
    exact R1.mk (int_eq e.out.symm) rfl
  · have e := Lib.hid (show cmpI x y = 1 by unfold cmpI; rw [if_neg (by omega), if_pos h])
    have h1 : ¬ (x : Int) < y := by omega
    go_enter Try.func72, Try.ntmps72
    go_wp2_with fail
    refine (isNaNU_any _ _).mono ?_
    rintro e1 w1 ⟨rfl, rfl⟩
    go_wp2_with fail
    refine (isNaNU_any _ _).mono ?_
    rintro e1 w2 ⟨rfl, rfl⟩
    go_wp2_with fail
    go_ret
    exact R1.mk (int_eq e.out.symm) rfl
  · have e := Lib.hid (show cmpI x y = 0 by unfold cmpI; rw [if_neg (by omega), if_neg (by omega)])
    have h1 : ¬ (x : Int) < y := by omega
    have h2 : ¬ (y : Int) < x := by omega
    clear h
    go_enter Try.func72, Try.ntmps72
    go_wp2_with fail
    refine (isNaNU_any _ _).mono ?_
    rintro e1 w1 ⟨rfl, rfl⟩
    go_wp2_with fail
    refine (isNaNU_any _ _).mono ?_
    rintro e1 w2 ⟨rfl, rfl⟩
    go_wp2_with fail
    go_ret
    exact R1.mk (int_eq e.out.symm) rfl

theorem cmpI_cases (a b : Int) : cmpI a b = -1 ∨ cmpI a b = 0 ∨ cmpI a b = 1 := by
  unfold cmpI; split
  · exact .inl rfl
  · split
    · exact .inr (.inr rfl)
    · exact .inr (.inl rfl)
theorem cmpL_left {m : List Nat} (h : m ≠ []) : cmpL [] m = -1 := by
  cases m with
  | nil => exact absurd rfl h
  | cons b m => rfl
theorem cmpL_right {l : List Nat} (h : l ≠ []) : cmpL l [] = 1 := by
  cases l with
  | nil => exact absurd rfl h
  | cons b m => rfl

set_option maxRecDepth 1000000 in
set_option maxHeartbeats 2000000 in
theorem compareUs_any (A B : Option Addr) (n m c d : Nat) (l k : List Nat) (hn : l.length = n) (hm : k.length = m) (hl : n ≤ maxLen) (hk : m ≤ maxLen) (w : World) (h : Has w w.heap.size A (u64s l)) (h' : Has w w.heap.size B (u64s k)) :
    Calls Try.prog 48 #[.slice A n c, .slice B m d] w (R1 (.int .i64 (cmpL l k)) (fun w' => w' = w)) := by
  unfold maxLen at hl hk
  have Hn := Lib.hid hn; clear hn
  have Hm := Lib.hid hm; clear hm
  go_enter Try.func48, Try.ntmps48
  go_wp2_with fail
  go_loopw [11] (fun i wr => ∃ j : Nat, j ≤ n ∧ j ≤ m ∧ i = .int .i64 (j : Nat) ∧ Hid (cmpL l k = cmpL (l.drop j) (k.drop j)) ∧ wr = w) (fun i _ => n - (intOf i).toNat)
  case atStart => exact ⟨0, by omega, by omega, rfl, Lib.hid rfl, rfl⟩
  case round =>
    obtain ⟨j, hj, hjm, rfl, heq, rfl⟩ := hrel
    by_cases hlt : (j : Int) < (n : Int)
    · obtain ⟨ad, rfl, _, c1⟩ := h.at (u64s_at (show j < l.length by rw [Hn.out]; omega))
      by_cases hlm : (m : Int) ≤ (j : Int)
      · have e := Lib.hid (show cmpL l k = 1 by rw [heq.out, List.drop_eq_nil_of_le (show k.length ≤ j by rw [Hm.out]; omega), cmpL_right (by intro hx; have := congrArg List.length hx; rw [List.length_drop, Hn.out] at this; simp at this; omega)])
        go_wp2_with fail
        go_ret
        exact R1.mk (int_eq e.out.symm) rfl
      · obtain ⟨bd, rfl, _, c3⟩ := h'.at (u64s_at (show j < k.length by rw [Hm.out]; omega))
        have hst := Lib.hid (show cmpL l k = if cmpI (at_ l j : Nat) (at_ k j : Nat) ≠ 0 then cmpI (at_ l j : Nat) (at_ k j : Nat) else cmpL (l.drop (j + 1)) (k.drop (j + 1)) by rw [heq.out, drop_at (show j < l.length by rw [Hn.out]; omega), drop_at (show j < k.length by rw [Hm.out]; omega)]; rfl)
        obtain ⟨z, hz⟩ : ∃ z, cmpI (at_ l j : Nat) (at_ k j : Nat) = z := ⟨_, rfl⟩
        rw [hz] at hst
        have Hz := Lib.hid hz; clear hz
        go_wp2_with fail
        refine (compareU_any _ _ _).mono ?_
        rw [Hz.out]
        rintro e1 w1 ⟨rfl, rfl⟩
        by_cases h0 : z = 0
        · subst h0
          go_wp2_with fail
          go_roundw
          case rel => exact ⟨j + 1, by omega, by omega, by go_num, Lib.hid (by rw [hst.out, if_neg (by simp)]), by trivial⟩
          case measure => simp [intOf]; omega
        · have h1 : (z != 0) = true := by rw [bne_iff_ne]; exact h0
          have e := Lib.hid (show cmpL l k = z by rw [hst.out, if_pos h0])
          go_wp2_with fail
          go_ret
          exact R1.mk (int_eq e.out.symm) rfl
    · have e1 := Lib.hid (show cmpL l k = if n < m then -1 else 0 by
        rw [heq.out, List.drop_eq_nil_of_le (show l.length ≤ j by rw [Hn.out]; omega)]
        split
        · exact cmpL_left (by intro hx; have := congrArg List.length hx; rw [List.length_drop, Hm.out] at this; simp at this; omega)
        · rw [List.drop_eq_nil_of_le (show k.length ≤ j by rw [Hm.out]; omega)]; rfl)
      by_cases hnm : (n : Int) < (m : Int)
      · go_wp2_with fail
        go_ret
        exact R1.mk (int_eq (by rw [e1.out, if_pos (by omega)])) rfl
      · go_wp2_with fail
        go_ret
        exact R1.mk (int_eq (by rw [e1.out, if_neg (by omega)])) rfl

set_option maxRecDepth 1000000 in
set_option maxHeartbeats 2000000 in
theorem orInts_any (A : Option Addr) (n c : Nat) (l : List Int) (hn : l.length = n) (hl : n ≤ 1000) (w : World) (h : Has w w.heap.size A (i64s l)) :
    Calls Try.prog 45 #[.slice A n c] w (R1 (.int .i64 (orL l)) (fun w' => w' = w)) := by
  have Hn := Lib.hid hn; clear hn
  go_enter Try.func45, Try.ntmps45
  go_wp2_with fail
  go_loopw [8] (fun i wr => ∃ j : Nat, j ≤ n ∧ i = .int .i64 (j : Nat) ∧ Hid (orL l = orL (l.drop j)) ∧ wr = w) (fun i _ => n - (intOf i).toNat)
  case atStart => exact ⟨0, by omega, rfl, Lib.hid rfl, rfl⟩
  case round =>
    obtain ⟨j, hj, rfl, heq, rfl⟩ := hrel
    by_cases hlt : (j : Int) < (n : Int)
    · obtain ⟨ad, rfl, _, c1⟩ := h.at (i64s_at (show j < l.length by rw [Hn.out]; omega))
      have hst := Lib.hid (show orL l = if at_ l j ≠ 0 then at_ l j else orL (l.drop (j + 1)) by rw [heq.out, drop_at (show j < l.length by rw [Hn.out]; omega)]; rfl)
      obtain ⟨z, hz⟩ : ∃ z, at_ l j = z := ⟨_, rfl⟩
      rw [hz] at hst c1
      clear hz
      by_cases h0 : z = 0
      · subst h0
        go_wp2_with fail
        go_roundw
        case rel => exact ⟨j + 1, by omega, by go_num, Lib.hid (by rw [hst.out, if_neg (by simp)]), by trivial⟩
        case measure => simp [intOf]; omega
      · have h1 : (z != 0) = true := by rw [bne_iff_ne]; exact h0
        have e := Lib.hid (show orL l = z by rw [hst.out, if_pos h0])
        go_wp2_with fail
        go_ret
        exact R1.mk (int_eq e.out.symm) rfl
    · have e1 := Lib.hid (show orL l = 0 by rw [heq.out, List.drop_eq_nil_of_le (show l.length ≤ j by rw [Hn.out]; omega)]; rfl)
      go_wp2_with fail
      go_ret
      exact R1.mk (int_eq e1.out.symm) rfl
end Go.Proofs.Ytokilodekbjpnaa
