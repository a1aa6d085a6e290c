/- Where slices.BinarySearch ends in a sorted row of int64. Conditions: the row lies in its cells, and is sorted. -/
import Derived.Test.YthofijhjbaaokaaLessI
import Derived.Test.YthofijhjbaaokaaHandLaw
import Derived.Test.YthofijhjbaaokaaPlcI
import Derived.Test.YthofijhjbaaokaaSrtLaw
namespace Go.Proofs.Ythofijhjbaaokaa
open Go.RowKit

def FoundL (v : Value) (i : Nat) : Prop := ∃ b, v = .tuple #[.int .i64 i, .bool b]
theorem at_UpL {l : List Int} (h : l.Pairwise (· ≤ ·)) {i j : Nat} (hij : i < j) (hj : j < l.length) : at_ l i ≤ at_ l j := by
  rw [at_eq hj, at_eq (Nat.lt_trans hij hj)]
  exact List.pairwise_iff_getElem.1 h i j (Nat.lt_trans hij hj) hj hij
theorem PlaceI.sort {l : List Int} (h : l.Pairwise (· ≤ ·)) {x : Int} {i : Nat} (hp : PlaceI l x i) : l.take i ++ x :: l.drop i = sortI (x :: l) := by
  obtain ⟨h1, h2, h3⟩ := hp
  symm
  refine sort_eq ?_ ?_
  · have : (l.take i ++ x :: l.drop i).Perm (x :: (l.take i ++ l.drop i)) := List.perm_middle
    rw [List.take_append_drop] at this
    exact this.symm
  · have hs : (l.take i ++ l.drop i).Pairwise (· ≤ ·) := by rw [List.take_append_drop]; exact h
    obtain ⟨p1, p2, p3⟩ := List.pairwise_append.1 hs
    have q1 : ∀ a ∈ l.take i, a ≤ x := fun a ha => by
      obtain ⟨j, hj, rfl⟩ := List.getElem_of_mem ha
      rw [List.length_take] at hj
      have := h2 j (by omega)
      rw [at_eq (show j < l.length by omega)] at this
      rw [List.getElem_take]
      omega
    have q2 : ∀ a ∈ l.drop i, x ≤ a := fun a ha => by
      obtain ⟨j, hj, rfl⟩ := List.getElem_of_mem ha
      rw [List.length_drop] at hj
      have := h3 (by omega)
      rw [List.getElem_drop]
      have hm : at_ l i ≤ at_ l (i + j) := by
        rcases Nat.eq_zero_or_pos j with rfl | hj0
        · exact Int.le_refl _
        · exact at_UpL h (by omega) (by omega)
      rw [at_eq (show i + j < l.length by omega)] at hm
      omega
    refine List.pairwise_append.2 ⟨p1, List.pairwise_cons.2 ⟨q2, p2⟩, fun a ha b hb => ?_⟩
    rcases List.mem_cons.1 hb with rfl | hb
    · exact q1 a ha
    · exact p3 a ha b hb

set_option maxRecDepth 1000000 in
theorem sNaL_any (x : Int) (w : World) : Calls Try.prog 71 #[.int .i64 x] w (R1 (.bool false) (fun w' => w' = w)) := by
  have e : (x != x) = false := by simp
  go_enter Try.func71, Try.ntmps71
  go_wp2_with fail
  go_ret
  exact R1.mk (by simp) rfl
set_option maxRecDepth 1000000 in
set_option maxHeartbeats 4000000 in
theorem binsL_any (A : Option Addr) (n c : Nat) (l : List Int) (hn : l.length = n) (hl : n ≤ 2000) (hu : l.Pairwise (· ≤ ·)) (x : Int) (w : World) (h : Has w w.heap.size A (i64s l)) :
    Calls Try.prog 51 #[.slice A n c, .int .i64 x] w (RV fun v w' => (∃ i : Nat, FoundL v i ∧ PlaceI l x i) ∧ w' = w) := by
  have Hn := Lib.hid hn; clear hn
  have HU := Lib.hid hu; clear hu
  go_enter Try.func51, Try.ntmps51
  go_wp2_with fail
  go_loopw [7, 8] (fun a b wr => ∃ i j : Nat, i ≤ j ∧ j ≤ n ∧ a = .int .i64 (i : Nat) ∧ b = .int .i64 (j : Nat) ∧ Hid ((∀ q, q < i → at_ l q < x) ∧ ∀ q, j ≤ q → q < n → x ≤ at_ l q) ∧ wr = w) (fun a b _ => (intOf b).toNat - (intOf a).toNat)
  case atStart => exact ⟨0, n, by omega, by omega, rfl, rfl, Lib.hid ⟨fun q hq => by omega, fun q h1 h2 => by omega⟩, rfl⟩
  case round =>
    obtain ⟨i, j, hij, hjn, rfl, rfl, hq, rfl⟩ := hrel
    by_cases hlt : (i : Int) < (j : Int)
    · obtain ⟨m, hm⟩ : ∃ m, (i + j) / 2 = m := ⟨_, rfl⟩
      have h1 : i ≤ m := by omega
      have h2 : m < j := by omega
      have e1 : Hid (((i : Int) + (j : Int)) / 2 = (m : Int)) := Lib.hid (by omega)
      have Hm := Lib.hid hm
      clear hm
      obtain ⟨ad, rfl, had, c0⟩ := h.at (i64s_at (show m < l.length by rw [Hn.out]; omega))
      obtain ⟨y, hy⟩ : ∃ y, at_ l m = y := ⟨_, rfl⟩
      rw [hy, ← Hm.out] at c0
      have Hy := Lib.hid hy
      clear hy
      by_cases hyx : y < x
      · go_wp2_with fail
        rw [e1.out]
        go_wp2_with fail
        refine (less_any _ _ _).mono ?_
        rintro e w1 ⟨rfl, hw1⟩
        rw [hw1]
        go_wp2_with fail
        go_roundw
        case rel =>
          refine ⟨m + 1, j, by omega, hjn, by go_num, rfl, Lib.hid ⟨fun q hq2 => ?_, hq.out.2⟩, (by first | rfl | trivial)⟩
          rcases Nat.lt_or_ge q m with g | g
          · have := at_UpL HU.out g (show m < l.length by rw [Hn.out]; omega)
            rw [Hy.out] at this
            omega
          · rw [show q = m by omega, Hy.out]; exact hyx
        case measure => simp [intOf]; omega
      · go_wp2_with fail
        rw [e1.out]
        go_wp2_with fail
        refine (less_any _ _ _).mono ?_
        rintro e w1 ⟨rfl, hw1⟩
        rw [hw1]
        go_wp2_with fail
        go_roundw
        case rel =>
          refine ⟨i, m, h1, by omega, rfl, rfl, Lib.hid ⟨hq.out.1, fun q h3 h4 => ?_⟩, (by first | rfl | trivial)⟩
          rcases Nat.lt_or_ge m q with g | g
          · have := at_UpL HU.out g (show q < l.length by rw [Hn.out]; exact h4)
            rw [Hy.out] at this
            omega
          · rw [show q = m by omega, Hy.out]; omega
        case measure => simp [intOf]; omega
    · have hij2 : j = i := by omega
      subst hij2
      have hp := Lib.hid (show PlaceI l x j from ⟨by rw [Hn.out]; exact hjn, hq.out.1, fun g => Int.not_lt.2 (hq.out.2 j (Nat.le_refl _) (by rw [← Hn.out]; exact g))⟩)
      by_cases hjl : (j : Int) < (n : Int)
      · obtain ⟨ad, rfl, had, c0⟩ := h.at (i64s_at (show j < l.length by rw [Hn.out]; omega))
        obtain ⟨y, hy⟩ : ∃ y, at_ l j = y := ⟨_, rfl⟩
        rw [hy] at c0
        by_cases hyx : y = x
        · subst hyx
          clear hy hlt
          go_wp2_with fail
          go_ret2
          exact RV.mk ⟨⟨j, ⟨_, rfl⟩, hp.out⟩, rfl⟩
        · have hyb : (y == x) = false := by rw [beq_eq_false_iff_ne]; exact hyx
          clear hy hlt
          go_wp2_with ((refine (sNaL_any _ _).mono ?_; rintro e w1 ⟨rfl, hw1⟩; rw [hw1]))
          go_ret2
          exact RV.mk ⟨⟨j, ⟨_, rfl⟩, hp.out⟩, rfl⟩
      · clear hlt
        go_wp2_with fail
        go_ret2
        exact RV.mk ⟨⟨j, ⟨_, rfl⟩, hp.out⟩, rfl⟩
end Go.Proofs.Ythofijhjbaaokaa
