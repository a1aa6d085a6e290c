/- The walk of the law RateParts: it returns true. Conditions: the arguments fit their kinds. -/
import Derived.Test.YtdoinkflhjnflaaLawRate
import Derived.Test.YtdoinkflhjnflaaGood
namespace Go.Proofs.Ytdoinkflhjnflaa
open Go.RowKit

theorem at_take {α : Type} [Inhabited α] {l : List α} {k i : Nat} (h : i < k) : at_ (l.take k) i = at_ l i := by
  simp [at_, List.getD, h]
theorem at_drop {α : Type} [Inhabited α] (l : List α) (k i : Nat) : at_ (l.drop k) i = at_ l (k + i) := by
  simp [at_, List.getD]
theorem ordUp_take {l : List Smp} {k m : Nat} (h : m < k) : ordUp (l.take k) m = ordUp l m := by
  induction m with
  | zero => rfl
  | succ m ih => rw [ordUp, ordUp, ih (by omega), at_take (by omega), at_take h]
theorem ordUp_drop {l : List Smp} {k m : Nat} (h : ordUp l (k + m) = true) : ordUp (l.drop k) m = true := by
  induction m with
  | zero => rfl
  | succ m ih =>
    have h1 := ih (ordUp_le h (by omega))
    have h2 := ordUp_step h (show k + m < k + (m + 1) by omega)
    simp [ordUp, h1, at_drop, show k + (m + 1) = k + m + 1 from rfl, h2]
theorem chkS_ok {l : List Smp} (h : chkS l = 0) : l.length ≤ 1000 ∧ ordUp l (l.length - 1) = true := by
  unfold chkS at h
  split at h
  · simp at h
  · split at h
    · exact ⟨by omega, by assumption⟩
    · simp at h
theorem chkS_mk {l : List Smp} (h1 : l.length ≤ 1000) (h2 : ordUp l (l.length - 1) = true) : chkS l = 0 := by
  unfold chkS
  rw [if_neg (by omega), if_pos h2]
theorem chkS_take {l : List Smp} {k : Nat} (hk : k < l.length) (h : chkS l = 0) : chkS (l.take (k + 1)) = 0 := by
  obtain ⟨h1, h2⟩ := chkS_ok h
  have hlen : (l.take (k + 1)).length = k + 1 := by rw [List.length_take]; omega
  refine chkS_mk (by omega) ?_
  rw [hlen, ordUp_take (by omega)]
  exact ordUp_le h2 (by omega)
theorem chkS_drop {l : List Smp} {k : Nat} (hk : k < l.length) (h : chkS l = 0) : chkS (l.drop k) = 0 := by
  obtain ⟨h1, h2⟩ := chkS_ok h
  refine chkS_mk (by rw [List.length_drop]; omega) ?_
  rw [List.length_drop]
  exact ordUp_drop (ordUp_le h2 (by omega))
theorem grUp_take {l : List Smp} {k m : Nat} (h : m < k) : grUp (l.take k) m = grUp l m := by
  induction m with
  | zero => rfl
  | succ m ih => rw [grUp, grUp, ih (by omega), at_take h, at_take (show m < k by omega)]
theorem grUp_drop (l : List Smp) (k m : Nat) : (grUp l (k + m)).1 = ((grUp l k).1 + (grUp (l.drop k) m).1) % 18446744073709551616 ∧ (grUp l (k + m)).2 = (grUp l k).2 + (grUp (l.drop k) m).2 := by
  induction m with
  | zero =>
    have := (grUp_lt l k).1
    simp only [Nat.add_zero, grUp]
    exact ⟨by omega, trivial⟩
  | succ m ih =>
    rw [show k + (m + 1) = k + m + 1 from rfl, grUp, grUp, at_drop, at_drop, show k + (m + 1) = k + m + 1 from rfl]
    split
    · simp only []
      refine ⟨?_, by omega⟩
      rw [ih.1]
      omega
    · simp only []
      refine ⟨?_, ih.2⟩
      rw [ih.1]
      omega
theorem posS_take {l : List Smp} (k : Nat) (h : posS l = true) : posS (l.take k) = true := by
  unfold posS at *
  rw [List.all_eq_true] at *
  exact fun s hs => h s (List.mem_of_mem_take hs)
theorem posS_drop {l : List Smp} (k : Nat) (h : posS l = true) : posS (l.drop k) = true := by
  unfold posS at *
  rw [List.all_eq_true] at *
  exact fun s hs => h s (List.mem_of_mem_drop hs)
theorem grN_or (l : List Smp) : (∃ e : Int, grN l = (0, 0, e) ∧ (e != 0) = true ∧ (e == 0) = false) ∨ (chkS l = 0 ∧ posS l = true) := by
  unfold grN
  by_cases hk : chkS l = 0
  · rw [if_neg (by rw [hk]; simp)]
    by_cases hp : posS l = true
    · exact .inr ⟨hk, hp⟩
    · exact .inl ⟨6, by rw [if_neg hp], rfl, rfl⟩
  · exact .inl ⟨chkS l, by rw [if_pos hk], by rw [bne_iff_ne]; exact hk, by rw [beq_eq_false_iff_ne]; exact hk⟩
theorem grN_ok {l : List Smp} (h1 : chkS l = 0) (h2 : posS l = true) : grN l = ((grUp l (l.length - 1)).1, (grUp l (l.length - 1)).2, 0) := by
  unfold grN
  rw [if_neg (by rw [h1]; simp), if_pos h2]
theorem smpCs_take (l : List Smp) (k : Nat) : (smpCs l).take (k * 2) = smpCs (l.take k) := by
  induction l generalizing k with
  | nil => simp [smpCs]
  | cons s l ih =>
    cases k with
    | zero => simp [smpCs]
    | succ k =>
      have e : smpCs (s :: l) = .int .i64 s.t :: .int .i64 s.v :: smpCs l := rfl
      rw [e, show (k + 1) * 2 = k * 2 + 1 + 1 from by omega, List.take_succ_cons, List.take_succ_cons, ih]
      rfl
theorem smpCs_drop (l : List Smp) (k : Nat) : (smpCs l).drop (k * 2) = smpCs (l.drop k) := by
  induction l generalizing k with
  | nil => simp [smpCs]
  | cons s l ih =>
    cases k with
    | zero => simp [smpCs]
    | succ k =>
      have e : smpCs (s :: l) = .int .i64 s.t :: .int .i64 s.v :: smpCs l := rfl
      rw [e, show (k + 1) * 2 = k * 2 + 1 + 1 from by omega, List.drop_succ_cons, List.drop_succ_cons, ih]
      rfl

set_option maxRecDepth 1000000 in
set_option maxHeartbeats 4000000 in
theorem rateParts_true (w : World) (A : Option Addr) (c : Nat) (l : List Smp) (hs : Smps l) (hlc : l.length ≤ c) (hc : c ≤ maxLen) (_ : A = none → c = 0) (h : Has w w.heap.size A (smpCs l)) (_ : l.length ≤ 8796093022207)
    (p : Int) (hp : -9223372036854775808 ≤ p ∧ p ≤ 9223372036854775807) :
    Calls Try.prog 9 #[.slice A l.length c, .int .i64 p] w (R1 (.bool true) (Below w.heap.size w)) := by
  have hl : l.length ≤ maxLen := by omega
  have hc2 := hc
  unfold maxLen at hc2
  rcases grN_or l with ⟨e, hG, he, he'⟩ | ⟨hk0, hpos⟩
  · have HG := Lib.hid hG; clear hG
    go_enter Try.func9, Try.ntmps9
    go_wp2_with fail
    refine (rates_true _).mono ?_
    rintro e w1 ⟨rfl, hb1⟩
    go_wp2_with fail
    refine (grown_any A c l hs hl _ (h.next hb1)).mono ?_
    rintro e w2 ⟨rfl, hb2⟩
    rw [HG.out, R3i]
    go_wp2_with fail
    go_ret
    exact R1.mk rfl (bnext hb1 hb2)
  have hG := grN_ok hk0 hpos
  rcases hxy : grUp l (l.length - 1) with ⟨x, a⟩
  rw [hxy] at hG
  have HG := Lib.hid hG; clear hG
  rcases (show p < 0 ∨ (0 ≤ p ∧ (l.length : Int) ≤ p) ∨ (0 ≤ p ∧ p < (l.length : Int)) by omega) with h1 | ⟨h1, h2⟩ | ⟨h1, h2⟩
  all_goals try (
    have Hxy := Lib.hid hxy; clear hxy
    have Hk := Lib.hid hk0; clear hk0
    have Hp := Lib.hid hpos; clear hpos
    go_enter Try.func9, Try.ntmps9
    go_wp2_with fail
    refine (rates_true _).mono ?_
    rintro e w1 ⟨rfl, hb1⟩
    go_wp2_with fail
    refine (grown_any A c l hs hl _ (h.next hb1)).mono ?_
    rintro e w2 ⟨rfl, hb2⟩
    rw [HG.out, R3i]
    go_wp2_with fail
    go_ret
    exact R1.mk rfl (bnext hb1 hb2))
  obtain ⟨k, rfl⟩ := Int.eq_ofNat_of_zero_le h1
  have hkl : k < l.length := by omega
  have q3 : (k : Int) + 1 ≤ (c : Int) := by omega
  have q4 : (k : Int) ≤ (c : Int) := by omega
  have lt : (l.take (k + 1)).length = k + 1 := by rw [List.length_take]; omega
  have ld : (l.drop k).length = l.length - k := List.length_drop
  have gT : Hid (grN (l.take (k + 1)) = ((grUp l k).1, (grUp l k).2, 0)) := Lib.hid (by
    rw [grN_ok (chkS_take hkl hk0) (posS_take _ hpos), lt, show k + 1 - 1 = k from rfl, grUp_take (by omega)])
  have gD := grN_ok (chkS_drop hkl hk0) (posS_drop k hpos)
  have hadd := grUp_drop l k (l.length - k - 1)
  rw [ld] at gD
  rw [show k + (l.length - k - 1) = l.length - 1 by omega, hxy] at hadd
  simp only at hadd
  have lim1 := grUp_lt l k
  have lim2 := grUp_lt (l.drop k) (l.length - k - 1)
  rcases hT : grUp l k with ⟨x1, a1⟩
  rcases hD : grUp (l.drop k) (l.length - k - 1) with ⟨x2, a2⟩
  rw [hT] at gT hadd lim1
  rw [hD] at gD hadd lim2
  simp only at hadd lim1 lim2
  have HD := Lib.hid gD
  have HA := Lib.hid hadd
  clear gD hadd hT hD hxy hk0 hpos
  have hlenS := hs
  obtain ⟨ad, rfl, _, _⟩ := h.at (smpCs_t hkl)
  have hTs : Smps (l.take (k + 1)) := fun s hm => hs s (List.mem_of_mem_take hm)
  have hDs : Smps (l.drop k) := fun s hm => hs s (List.mem_of_mem_drop hm)
  have Lt := Lib.hid lt; clear lt
  have Ld := Lib.hid ld; clear ld
  go_enter Try.func9, Try.ntmps9
  go_wp2_with fail
  refine (rates_true _).mono ?_
  rintro e w1 ⟨rfl, hb1⟩
  go_wp2_with fail
  refine (grown_any _ c l hs hl _ (h.next hb1)).mono ?_
  rintro e w2 ⟨rfl, hb2⟩
  rw [HG.out, R3i]
  have hb2 := bnext hb1 hb2
  go_wp2_with fail
  refine (grown_any' _ _ c (l.take (k + 1)) Lt.out hTs (by rw [Lt.out]; unfold maxLen; omega) _ (by exact smpCs_take l (k + 1) ▸ (h.next hb2).take ((k + 1) * 2))).mono ?_
  rintro e w3 ⟨rfl, hb3⟩
  rw [gT.out, R3i]
  have hb3 := bnext hb2 hb3
  go_wp2_with fail
  have hcut := (h.next hb3).cut (k := k) (size := 2) (cap := c) (n := l.length) (by rw [smpCs_len]) hlc
  rw [if_neg (by omega), smpCs_drop] at hcut
  refine (grown_any' _ _ _ (l.drop k) Ld.out hDs (by rw [Ld.out]; unfold maxLen; omega) _ (by exact hcut)).mono ?_
  rintro e w4 ⟨rfl, hb4⟩
  rw [HD.out, R3i]
  have hb4 := bnext hb3 hb4
  go_wp2_with fail
  refine (good_any _ 2 _ [0, 0] rfl (by decide) _ (Has.fresh w4 #[.int .i64 0, .int .i64 0] _)).mono ?_
  rintro e w5 ⟨rfl, n5, rfl⟩
  have e1 : IntKind.u64.wrap ((x1 : Int) + (x2 : Int)) = (x : Int) := by rw [IntKind.wrap_u64]; have := HA.out.1; omega
  have e2 : (a : Int) = (a1 : Int) + (a2 : Int) := by have := HA.out.2; omega
  have E2 := Lib.hid e2; clear e2
  go_wp2_with fail
  go_ret
  exact R1.mk (bool_eq (by rw [beq_iff_eq]; exact E2.out)) (below_drewN (bnext hb4 ((Below.refl _ _).alloc (Nat.le_refl _) _)) _)
end Go.Proofs.Ytdoinkflhjnflaa
