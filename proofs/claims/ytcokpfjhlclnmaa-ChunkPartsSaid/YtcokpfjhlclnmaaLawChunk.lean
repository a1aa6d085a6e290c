/- The walk of the law ChunkParts: it returns true. Conditions: the arguments fit their kinds. -/
import Derived.Test.YtcokpfjhlclnmaaRange
import Derived.Test.YtcokpfjhlclnmaaSame
import Derived.Test.YtcokpfjhlclnmaaGood
namespace Go.Proofs.Ytcokpfjhlclnmaa
open Go.RowKit

def twoS : List Smp := [⟨1, 5⟩, ⟨3, 8⟩]
theorem twoS_ok : Smps twoS := by
  intro s hs
  simp only [twoS, List.mem_cons, List.not_mem_nil, or_false] at hs
  rcases hs with rfl | rfl <;> exact ⟨⟨by decide, by decide⟩, by decide, by decide⟩

set_option maxRecDepth 1000000 in
set_option maxHeartbeats 400000 in
theorem two_any (w : World) : Calls Try.prog 51 #[] w (RV fun v w' => ∃ A, v = .slice A 2 2 ∧ Has w' w'.heap.size A (smpCs twoS) ∧ Below w.heap.size w w') := by
  go_enter Try.func51, Try.ntmps51
  go_wp2
  go_ret
  exact RV.mk ⟨some ⟨w.heap.size, 0, none⟩, rfl, Has.fresh w #[.int .i64 1, .int .i64 5, .int .i64 3, .int .i64 8] _, (Below.refl _ _).alloc (Nat.le_refl _) _⟩

set_option maxRecDepth 1000000 in
set_option maxHeartbeats 400000 in
theorem chunks_true (w : World) : Calls Try.prog 23 #[] w (R1 (.bool true) (Below w.heap.size w)) := by
  have e0 : Hid ((rangeN twoS 1 2).length = 1) := Lib.hid (by decide +kernel)
  have e1 : Hid (chkS twoS = 0) := Lib.hid (by decide +kernel)
  go_enter Try.func23, Try.ntmps23
  go_wp2_with fail
  refine (two_any _).mono ?_
  rintro e w1 ⟨v, rfl, A, rfl, h1, hb1⟩
  go_wp2_with fail
  refine (range_any A 2 twoS (by decide) (by decide) 1 2 _ h1).mono ?_
  rintro e w2 ⟨v, rfl, A2, c2, rfl, hown, hb2⟩
  rw [e0.out, e1.out]
  go_wp2_with fail
  go_ret
  exact R1.mk rfl (bnext hb1 hb2)

theorem smpCs_app (l k : List Smp) : smpCs (l ++ k) = smpCs l ++ smpCs k := by simp [smpCs]
theorem filter_parts {l : List Smp} (h : ordUp l (l.length - 1) = true) {a b c : Int} (hab : a ≤ b) (hbc : b ≤ c) : l.filter (inS a c) = l.filter (inS a b) ++ l.filter (inS b c) := by
  have hmono : l.Pairwise (fun x y => x.t < y.t) := by
    rw [List.pairwise_iff_getElem]
    intro i j hi hj hij
    have h1 := ord_mono h (show i + 1 ≤ j by omega) hj
    have h2 := ordUp_step h (show i < l.length - 1 by omega)
    rw [at_eq hj] at h1
    rw [at_eq hi] at h2
    omega
  clear h
  induction l with
  | nil => rfl
  | cons s l ih =>
    rw [List.pairwise_cons] at hmono
    have h1 := ih hmono.2
    by_cases hs : s.t < b
    · rw [List.filter_cons, List.filter_cons, List.filter_cons, h1]
      have e1 : inS b c s = false := by simp [inS]; omega
      have e2 : inS a c s = inS a b s := by
        unfold inS
        rw [show decide (s.t < c) = true by rw [decide_eq_true_iff]; omega, show decide (s.t < b) = true by rw [decide_eq_true_iff]; exact hs]
      rw [e1, e2]
      by_cases e3 : inS a b s = true <;> simp [e3]
    · have e0 : ∀ x ∈ s :: l, inS a b x = false := by
        intro x hx
        rcases List.mem_cons.1 hx with rfl | hx
        · simp [inS]; omega
        · have := hmono.1 x hx
          simp [inS]; omega
      have e1 : (s :: l).filter (inS a b) = [] := by
        rw [List.filter_eq_nil_iff]
        intro x hx
        rw [e0 x hx]
        simp
      rw [e1, List.nil_append]
      apply List.filter_congr
      intro x hx
      have : b ≤ x.t := by
        rcases List.mem_cons.1 hx with rfl | hx
        · omega
        · have := hmono.1 x hx; omega
      unfold inS
      rw [show decide (a ≤ x.t) = true by rw [decide_eq_true_iff]; omega, show decide (b ≤ x.t) = true by rw [decide_eq_true_iff]; exact this]
theorem rangeN_parts {l : List Smp} (h : chkS l = 0) {a b c : Int} (hab : a ≤ b) (hbc : b ≤ c) : rangeN l a c = rangeN l a b ++ rangeN l b c := by
  unfold rangeN
  rw [if_neg (by rw [h]; simp), if_neg (by rw [h]; simp), if_neg (by rw [h]; simp)]
  exact filter_parts (chkS_ok h).2 hab hbc
theorem rangeN_len (l : List Smp) (a b : Int) : (rangeN l a b).length ≤ l.length := by
  unfold rangeN
  split
  · simp
  · exact List.length_filter_le _ _

set_option maxRecDepth 1000000 in
set_option maxHeartbeats 4000000 in
theorem chunkParts_true (w : World) (A : Option Addr) (c : Nat) (l : List Smp) (_ : Smps l) (hlc : l.length ≤ c) (hc : c ≤ maxLen) (_ : A = none → c = 0) (h : Has w w.heap.size A (smpCs l)) (hr : l.length ≤ 8796093022207)
    (p : Int) (_ : -9223372036854775808 ≤ p ∧ p ≤ 9223372036854775807) (q : Int) (_ : -9223372036854775808 ≤ q ∧ q ≤ 9223372036854775807) (r : Int) (_ : -9223372036854775808 ≤ r ∧ r ≤ 9223372036854775807) :
    Calls Try.prog 4 #[.slice A l.length c, .int .i64 p, .int .i64 q, .int .i64 r] w (R1 (.bool true) (Below w.heap.size w)) := by
  obtain ⟨z, hz⟩ : ∃ z, chkS l = z := ⟨_, rfl⟩
  have HK := Lib.hid hz
  by_cases hz0 : z = 0
  · subst hz0
    have l1 := rangeN_len l p q
    have l2 := rangeN_len l q r
    have l3 := rangeN_len l p r
    have hlen := (chkS_ok hz).1
    rcases (show q < p ∨ (p ≤ q ∧ r < q) ∨ (p ≤ q ∧ q ≤ r) by omega) with k1 | ⟨k1, k2⟩ | ⟨k1, k2⟩
    all_goals try have HJ := Lib.hid (rangeN_parts hz k1 k2)
    all_goals clear hz
    all_goals
      go_enter Try.func4, Try.ntmps4
      go_wp2_with fail
      refine (chunks_true _).mono ?_
      rintro e w1 ⟨rfl, hb1⟩
      go_wp2_with fail
      refine (range_any A c l hlc hc p q _ (h.next hb1)).mono ?_
      rintro e w2 ⟨v, rfl, A2, c2, rfl, ho2, hb2⟩
      rw [HK.out]
      have hb2' := bnext hb1 hb2
      go_wp2_with fail
      refine (range_any A c l hlc hc q r _ (h.next hb2')).mono ?_
      rintro e w3 ⟨v, rfl, A3, c3, rfl, ho3, hb3⟩
      rw [HK.out]
      have hb3' := bnext hb2' hb3
      go_wp2_with fail
      refine (range_any A c l hlc hc p r _ (h.next hb3')).mono ?_
      rintro e w4 ⟨v, rfl, A4, c4, rfl, ho4, hb4⟩
      rw [HK.out]
      have hb4' := bnext hb3' hb4
      go_wp2_with fail
    iterate 2 (
      · go_ret
        exact R1.mk rfl hb4')
    refine (good_any _ 2 _ [0, 0] rfl (by decide) _ (Has.fresh w4 #[.int .i64 0, .int .i64 0] _)).mono ?_
    rintro e w5 ⟨rfl, n5, rfl⟩
    have hx := own_next (own_next ho2 hb3) hb4
    have hy := own_next ho3 hb4
    have hsz1 := hb2.size
    have hsz2 := hb3.size
    have hsz3 := hb4.size
    go_wp2_with (at_builtin; refine wpList_spread rfl _ _ _ rfl elSmp rfl (own_drewN (hx.alloc _) _) rfl (((Has.of_own hy).alloc (Nat.le_refl _) _).drewN _) ?_ ?c1 ?c2 ?c3 ?c4 ?c5; intro A' c' w6 hown6 hgrow hb6)
    case c1 => rw [smpCs_len]
    case c2 => exact smpCs_one _
    case c3 => omega
    case c4 => unfold maxLen; omega
    case c5 => show w1.heap.size ≤ (w4.alloc _).heap.size; simp; omega
    have hgrow : ((w4.alloc (.cells #[.int .i64 0, .int .i64 0] 27)).drewN n5).grownBy w6 (Value.ownBlock (.slice A2 (rangeN l p q).length c2)) := hgrow
    have hz6 : w6.ownsRow w3.heap.size 43 2 (.slice A4 (rangeN l p r).length c4) (rangeN l p r).length (smpCs (rangeN l p r)) := by
      refine (own_drewN (ho4.alloc _) n5).kept hgrow ?_
      cases hb : Value.ownBlock (.slice A4 (rangeN l p r).length c4) with
      | none => exact .inl rfl
      | some k =>
        refine .inr (fun he => ?_)
        have h1 := (ho4.lt k hb).1
        have h2 := (ho2.lt k he.symm).2
        omega
    refine (same_any _ _ _ _ _ _ (rangeN l p r) (rangeN l p q ++ rangeN l q r) rfl (by rw [List.length_append]) (by unfold maxLen; omega) (by unfold maxLen; omega) _ (by exact Has.of_own hz6) (by have := Has.of_own hown6; rwa [smpCs_app])).mono ?_
    rintro e w7 ⟨rfl, n7, rfl⟩
    go_wp2_with fail
    go_ret
    refine R1.mk (bool_eq (by rw [decide_eq_true_iff]; exact HJ.out)) (below_drewN ?_ _)
    exact (bnext hb4' (below_drewN ((Below.refl _ _).alloc (Nat.le_refl _) _) n5)).trans (hb6.mono hb1.size)
  · have f1 : (z != 0) = true := by rw [bne_iff_ne]; exact hz0
    have f2 : (z == 0) = false := by rw [beq_eq_false_iff_ne]; exact hz0
    have e1 : ∀ a b, rangeN l a b = [] := fun a b => by unfold rangeN; rw [if_pos (by rw [hz]; exact hz0)]
    have L1 : Hid ((rangeN l p q).length = 0) := Lib.hid (by rw [e1]; rfl)
    have L2 : Hid ((rangeN l q r).length = 0) := Lib.hid (by rw [e1]; rfl)
    have L3 : Hid ((rangeN l p r).length = 0) := Lib.hid (by rw [e1]; rfl)
    clear e1 hz hz0
    go_enter Try.func4, Try.ntmps4
    go_wp2_with fail
    refine (chunks_true _).mono ?_
    rintro e w1 ⟨rfl, hb1⟩
    go_wp2_with fail
    refine (range_any A c l hlc hc p q _ (h.next hb1)).mono ?_
    rintro e w2 ⟨v, rfl, A2, c2, rfl, ho2, hb2⟩
    rw [HK.out, L1.out]
    have hb2' := bnext hb1 hb2
    go_wp2_with fail
    refine (range_any A c l hlc hc q r _ (h.next hb2')).mono ?_
    rintro e w3 ⟨v, rfl, A3, c3, rfl, ho3, hb3⟩
    rw [HK.out, L2.out]
    have hb3' := bnext hb2' hb3
    go_wp2_with fail
    refine (range_any A c l hlc hc p r _ (h.next hb3')).mono ?_
    rintro e w4 ⟨v, rfl, A4, c4, rfl, ho4, hb4⟩
    rw [HK.out, L3.out]
    have hb4' := bnext hb3' hb4
    go_wp2_with fail
    go_ret
    exact R1.mk rfl hb4'
end Go.Proofs.Ytcokpfjhlclnmaa
