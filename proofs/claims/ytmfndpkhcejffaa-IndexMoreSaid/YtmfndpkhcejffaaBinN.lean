/- What slices.BinarySearch finds in a rising row of int. Conditions: the row lies in its cells, and rises. -/
import Derived.Test.YtmfndpkhcejffaaLessN
import Derived.Test.YtmfndpkhcejffaaHandLaw
import Derived.Test.YtmfndpkhcejffaaPlcI
namespace Go.Proofs.Ytmfndpkhcejffaa
open Go.RowKit

set_option maxRecDepth 1000000 in
theorem sNaNN_any (x : Int) (w : World) : Calls Try.prog 44 #[.int .i64 x] w (R1 (.bool false) (fun w' => w' = w)) := by
  have e : (x != x) = false := by simp
  go_enter Try.func44, Try.ntmps44
  go_wp2_with fail
  go_ret
  exact R1.mk (by simp) rfl
set_option maxRecDepth 1000000 in
set_option maxHeartbeats 4000000 in
theorem binsN_any (A : Option Addr) (n c : Nat) (l : List Int) (hn : l.length = n) (hl : n ≤ 4000000000000000000) (hu : UpI l) (x : Int) (w : World) (h : Has w w.heap.size A (i64s l)) :
    Calls Try.prog 29 #[.slice A n c, .int .i64 x] w (RV fun v w' => (∃ i : Nat, v = .tuple #[.int .i64 i, .bool (decide (x ∈ l))] ∧ PlaceI l x i) ∧ w' = w) := by
  have Hn := Lib.hid hn; clear hn
  have HU := Lib.hid hu; clear hu
  go_enter Try.func29, Try.ntmps29
  go_wp2_with fail
  go_loopw [7, 8] (fun a b wr => ∃ i j : Nat, i ≤ j ∧ j ≤ n ∧ a = .int .i64 (i : Nat) ∧ b = .int .i64 (j : Nat) ∧ Hid ((∀ q, q < i → at_ l q < x) ∧ ∀ q, j ≤ q → q < n → x ≤ at_ l q) ∧ wr = w) (fun a b _ => (intOf b).toNat - (intOf a).toNat)
  case atStart => exact ⟨0, n, by omega, by omega, rfl, rfl, Lib.hid ⟨fun q hq => by omega, fun q h1 h2 => by omega⟩, rfl⟩
  case round =>
    obtain ⟨i, j, hij, hjn, rfl, rfl, hq, rfl⟩ := hrel
    by_cases hlt : (i : Int) < (j : Int)
    · obtain ⟨m, hm⟩ : ∃ m, (i + j) / 2 = m := ⟨_, rfl⟩
      have h1 : i ≤ m := by omega
      have h2 : m < j := by omega
      have e1 : Hid (((i : Int) + (j : Int)) / 2 = (m : Int)) := Lib.hid (by omega)
      have Hm := Lib.hid hm
      clear hm
      obtain ⟨ad, rfl, had, c0⟩ := h.at (i64s_at (show m < l.length by rw [Hn.out]; omega))
      obtain ⟨y, hy⟩ : ∃ y, at_ l m = y := ⟨_, rfl⟩
      rw [hy, ← Hm.out] at c0
      have Hy := Lib.hid hy
      clear hy
      by_cases hyx : y < x
      · go_wp2_with fail
        rw [e1.out]
        go_wp2_with fail
        refine (lessN_any _ _ _).mono ?_
        rintro e w1 ⟨rfl, hw1⟩
        rw [hw1]
        go_wp2_with fail
        go_roundw
        case rel =>
          refine ⟨m + 1, j, by omega, hjn, by go_num, rfl, Lib.hid ⟨fun q hq2 => ?_, hq.out.2⟩, (by first | rfl | trivial)⟩
          rcases Nat.lt_or_ge q m with g | g
          · have := at_UpI HU.out g (show m < l.length by rw [Hn.out]; omega)
            rw [Hy.out] at this
            omega
          · rw [show q = m by omega, Hy.out]; exact hyx
        case measure => simp [intOf]; omega
      · go_wp2_with fail
        rw [e1.out]
        go_wp2_with fail
        refine (lessN_any _ _ _).mono ?_
        rintro e w1 ⟨rfl, hw1⟩
        rw [hw1]
        go_wp2_with fail
        go_roundw
        case rel =>
          refine ⟨i, m, h1, by omega, rfl, rfl, Lib.hid ⟨hq.out.1, fun q h3 h4 => ?_⟩, (by first | rfl | trivial)⟩
          rcases Nat.lt_or_ge m q with g | g
          · have := at_UpI HU.out g (show q < l.length by rw [Hn.out]; exact h4)
            rw [Hy.out] at this
            omega
          · rw [show q = m by omega, Hy.out]; omega
        case measure => simp [intOf]; omega
    · have hij2 : j = i := by omega
      subst hij2
      have hp := Lib.hid (show PlaceI l x j from ⟨by rw [Hn.out]; exact hjn, hq.out.1, fun g => Int.not_lt.2 (hq.out.2 j (Nat.le_refl _) (by rw [← Hn.out]; exact g))⟩)
      by_cases hjl : (j : Int) < (n : Int)
      · obtain ⟨ad, rfl, had, c0⟩ := h.at (i64s_at (show j < l.length by rw [Hn.out]; omega))
        obtain ⟨y, hy⟩ : ∃ y, at_ l j = y := ⟨_, rfl⟩
        rw [hy] at c0
        by_cases hyx : y = x
        · subst hyx
          have hm := Lib.hid (show decide (y ∈ l) = true from decide_eq_true ((hp.out.mem HU.out).2 ⟨by rw [Hn.out]; omega, hy⟩))
          have hv := Lib.hid (show Value.tuple #[.int .i64 j, .bool true] = Value.tuple #[.int .i64 j, .bool (decide (y ∈ l))] by rw [hm.out])
          clear hy hlt
          go_wp2_with fail
          go_ret2
          exact RV.mk ⟨⟨j, hv.out, hp.out⟩, rfl⟩
        · have hm := Lib.hid (show decide (x ∈ l) = false from decide_eq_false (fun g => hyx (by rw [← hy]; exact ((hp.out.mem HU.out).1 g).2)))
          have hv := Lib.hid (show Value.tuple #[.int .i64 j, .bool false] = Value.tuple #[.int .i64 j, .bool (decide (x ∈ l))] by rw [hm.out])
          have hyb : (y == x) = false := by rw [beq_eq_false_iff_ne]; exact hyx
          clear hy hlt
          go_wp2_with ((refine (sNaNN_any _ _).mono ?_; rintro e w1 ⟨rfl, hw1⟩; rw [hw1]))
          go_ret2
          exact RV.mk ⟨⟨j, hv.out, hp.out⟩, rfl⟩
      · have hm := Lib.hid (show decide (x ∈ l) = false from decide_eq_false (fun g => by have := ((hp.out.mem HU.out).1 g).1; rw [Hn.out] at this; omega))
        have hv := Lib.hid (show Value.tuple #[.int .i64 j, .bool false] = Value.tuple #[.int .i64 j, .bool (decide (x ∈ l))] by rw [hm.out])
        clear hlt
        go_wp2_with fail
        go_ret2
        exact RV.mk ⟨⟨j, hv.out, hp.out⟩, rfl⟩
end Go.Proofs.Ytmfndpkhcejffaa
