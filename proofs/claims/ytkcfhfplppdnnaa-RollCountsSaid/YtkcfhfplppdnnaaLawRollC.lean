/- The walk of the law RollCounts: it returns true. Conditions: the arguments fit their kinds. -/
import Derived.Test.YtkcfhfplppdnnaaRollCheck
namespace Go.Proofs.Ytkcfhfplppdnnaa
open Go.RowKit

def totS : List Win → Int
  | [] => 0
  | w :: l => w.s + totS l
def totV : List Smp → Int
  | [] => 0
  | s :: l => s.v + totV l
theorem wrap_add (a b : Int) : wrap64 (wrap64 a + b) = wrap64 (a + b) := by unfold wrap64; omega
theorem wrap_add' (a b : Int) : wrap64 (a + wrap64 b) = wrap64 (a + b) := by unfold wrap64; omega
theorem wrap0 : wrap64 0 = 0 := by unfold wrap64; omega
theorem totS_comb (w : Win) (l : List Win) : wrap64 (totS (comb w l)) = wrap64 (w.s + totS l) := by
  cases l with
  | nil => rfl
  | cons x r =>
    rw [comb]
    split
    · show wrap64 (wrap64 (w.s + x.s) + totS r) = wrap64 (w.s + (x.s + totS r))
      rw [wrap_add, Int.add_assoc]
    · rfl
theorem totS_coal (l : List Win) : wrap64 (totS (coal l)) = wrap64 (totS l) := by
  induction l with
  | nil => rfl
  | cons w l ih =>
    rw [coal, totS_comb, totS, ← wrap_add', ih, wrap_add']
theorem totS_ones (width : Int) (l : List Smp) : totS ((l.map oneW).map (reT width)) = totV l := by
  induction l with
  | nil => rfl
  | cons s l ih => rw [List.map_cons, List.map_cons, totS, ih, totV]; rfl
theorem totS_take {l : List Win} {k : Nat} (h : k < l.length) : totS (l.take (k + 1)) = totS (l.take k) + (at_ l k).s := by
  rw [take_at h]
  induction l.take k with
  | nil => simp [totS]
  | cons x r ih => rw [List.cons_append, totS, ih, totS]; omega
theorem totV_take {l : List Smp} {k : Nat} (h : k < l.length) : totV (l.take (k + 1)) = totV (l.take k) + (at_ l k).v := by
  rw [take_at h]
  induction l.take k with
  | nil => simp [totV]
  | cons x r ih => rw [List.cons_append, totV, ih, totV]; omega
theorem sumN_take1 {l : List Win} {k : Nat} (h : k < l.length) : sumN (l.take (k + 1)) = sumN (l.take k) + (at_ l k).n := by
  rw [take_at h]
  induction l.take k with
  | nil => simp [sumN]
  | cons x r ih => rw [List.cons_append, sumN, ih, sumN]; omega

set_option maxRecDepth 1000000 in
set_option maxHeartbeats 4000000 in
theorem rollCounts_true (w : World) (A : Option Addr) (c : Nat) (l : List Smp) (hs : Smps l) (hlc : l.length ≤ c) (hc : c ≤ maxLen) (_ : A = none → c = 0) (h : Has w w.heap.size A (smpCs l)) (hr : l.length ≤ 8796093022207)
    (width : Int) (_ : -9223372036854775808 ≤ width ∧ width ≤ 9223372036854775807) :
    Calls Try.prog 6 #[.slice A l.length c, .int .i64 width] w (R1 (.bool true) (Below w.heap.size w)) := by
  have hlm : l.length ≤ maxLen := by omega
  obtain ⟨⟨a, z⟩, hz⟩ : ∃ p, rollN l width = p := ⟨_, rfl⟩
  have Hz := Lib.hid hz
  by_cases hz0 : z = 0
  · subst hz0
    obtain ⟨hck, hw1, hw2, hfar, he⟩ := rollN_ok (l := l) (width := width) (by rw [hz])
    rw [hz] at he
    injection he with he _
    subst he
    have hlen := (chkS_ok hck).1
    have hal : (rollL l width).length ≤ 1000 := by have := rollL_len l width; omega
    have hok := Lib.hid (rollL_ok hck hw1)
    have hup := Lib.hid (rollL_up hck hw1)
    have hn0 : ∀ x ∈ rollL l width, 0 ≤ x.n := fun x hx => by have := (hok.out x hx).1; omega
    have hsum : sumN (rollL l width) = l.length := told_sum (rollL_told hw1)
    have hbd := Lib.hid (show ∀ k, 0 ≤ sumN ((rollL l width).take k) ∧ sumN ((rollL l width).take k) ≤ l.length by
      intro k
      have h1 := sumN_take hn0 k
      have h2 := (lastN_le (l := (rollL l width).take k) (fun x hx => hn0 x (List.mem_of_mem_take hx))).2
      omega)
    have hsum := Lib.hid hsum
    have htot := Lib.hid (show wrap64 (totS (rollL l width)) = wrap64 (totV l) by unfold rollL; rw [totS_coal, totS_ones])
    clear hz hck hfar hn0
    generalize rollL l width = a at hal hok hup hbd hsum htot Hz
    go_enter Try.func6, Try.ntmps6
    go_wp2_with fail
    refine (rolls_true _).mono ?_
    rintro e w1 ⟨rfl, hb1⟩
    go_wp2_with fail
    refine (roll_any A _ c l rfl hlm width _ (by exact Hz.out) _ (by exact h.next hb1)).mono ?_
    rintro e w2 ⟨v, rfl, A2, c2, rfl, ho2, hb2'⟩
    have hb2 := bnext hb1 hb2'
    have hw := Lib.hid (Has.of_own ho2); clear ho2
    go_wp2_with fail
    go_loopw [7, 8, 29] (fun n s i wr => ∃ (k : Nat) (nn ss : Int), k ≤ a.length ∧ i = .int .i64 (k : Nat) ∧ n = .int .i64 nn ∧ s = .int .i64 ss ∧ Hid (nn = sumN (a.take k)) ∧ Hid (ss = wrap64 (totS (a.take k))) ∧ 0 ≤ nn ∧ nn ≤ 1000 ∧ Below w2.heap.size w2 wr) (fun _ _ i _ => a.length + 5 - (intOf i).toNat)
    case atStart => exact ⟨0, 0, 0, by omega, rfl, rfl, rfl, Lib.hid rfl, Lib.hid wrap0.symm, by omega, by omega, Below.refl _ _⟩
    case round =>
      obtain ⟨k, nn, ss, hk, rfl, rfl, rfl, hnn, hss, n0, n1, hbr⟩ := hrel
      have hbs := hbr.size
      by_cases hlt : (k : Int) < (a.length : Int)
      · obtain ⟨ad, rfl, hadb, d0, d1, d2, d3, d4, d5, d6⟩ := (hw.out.below hbr).win (show k < a.length by omega)
        have o1 := (hok.out _ (at_mem (show k < a.length by omega))).1
        have o2 := (hok.out _ (at_mem (show k < a.length by omega))).2.1
        have hb3 := hbd.out (k + 1)
        rw [sumN_take1 (by omega), ← hnn.out] at hb3
        obtain ⟨s2, hs2⟩ : ∃ s2, wrap64 (ss + (at_ a k).s) = s2 := ⟨_, rfl⟩
        have e1 : IntKind.i64.wrap (ss + (at_ a k).s) = s2 := by rw [IntWalk.i64_left]; exact hs2
        have e2 : IntKind.i64.wrap (nn + (at_ a k).n) = nn + (at_ a k).n := IntWalk.i64_in _ (by omega)
        have Hs2 := Lib.hid hs2; clear hs2
        go_wp2_with fail
        go_quiet (fail)
        clear e1 e2
        go_wp2_with fail
        go_roundw
        case rel => exact ⟨k + 1, nn + (at_ a k).n, s2, by omega, by go_num, rfl, rfl, Lib.hid (by rw [sumN_take1 (by omega), ← hnn.out]), Lib.hid (by rw [totS_take (by omega), ← Hs2.out, hss.out, wrap_add]), by omega, by omega, below_drewN (hbr.alloc hbs _) _⟩
        case measure => simp [intOf]; omega
      · obtain rfl : k = a.length := by omega
        rw [List.take_length] at hnn hss
        have hbwo := hbr
        clear hbr
        have hw3 := Lib.hid (hw.out.next hbwo)
        have h3 := Lib.hid (h.next (bnext hb2 hbwo))
        go_wp2_with fail
        obtain ⟨wo, rfl⟩ : ∃ wo : World, wo = wr := ⟨_, rfl⟩
        go_loopw [9, 44] (fun s i wr => ∃ (k : Nat) (vv : Int), k ≤ l.length ∧ i = .int .i64 (k : Nat) ∧ s = .int .i64 vv ∧ Hid (vv = wrap64 (totV (l.take k))) ∧ Below wo.heap.size wo wr) (fun _ i _ => l.length + 5 - (intOf i).toNat)
        case atStart => exact ⟨0, 0, by omega, rfl, rfl, Lib.hid wrap0.symm, Below.refl _ _⟩
        case round =>
          obtain ⟨j, vv, hj, rfl, rfl, hvv, hbr⟩ := hrel
          have hbs2 := hbr.size
          by_cases hlt2 : (j : Int) < (l.length : Int)
          · obtain ⟨ad, rfl, _, c1⟩ := (h3.out.below hbr).at (smpCs_t (show j < l.length by omega))
            obtain ⟨ad', e', _, c2⟩ := (h3.out.below hbr).at (smpCs_v (show j < l.length by omega))
            injection e' with e'
            subst e'
            have c2 := cell_off c2 (by decide)
            obtain ⟨s2, hs2⟩ : ∃ s2, wrap64 (vv + (at_ l j).v) = s2 := ⟨_, rfl⟩
            have Hs2 := Lib.hid hs2; clear hs2
            go_wp2_with fail
            go_roundw
            case rel => exact ⟨j + 1, s2, by omega, by go_num, int_eq Hs2.out, Lib.hid (by rw [totV_take (by omega), ← Hs2.out, hvv.out, wrap_add]), hbr.alloc hbs2 _⟩
            case measure => simp [intOf]; omega
          · obtain rfl : j = l.length := by omega
            rw [List.take_length] at hvv
            obtain rfl : ss = vv := by rw [hss.out, hvv.out, htot.out]
            obtain rfl : nn = (l.length : Int) := by rw [hnn.out, hsum.out]
            have hw4 := Lib.hid (hw3.out.next hbr)
            go_wp2_with fail
            refine (wcheck_any A2 a.length c2 a rfl hal hok.out hup.out _ (by exact hw4.out)).mono ?_
            rintro e w5 ⟨rfl, hb5⟩
            go_wp2_with fail
            go_ret
            exact R1.mk rfl (bnext (bnext (bnext hb2 hbwo) hbr) hb5)
  · have k1 := rollN_bad (l := l) (width := width) (by rw [hz]; exact hz0)
    rw [hz] at k1
    simp only [] at k1
    subst k1
    have f1 : (z != 0) = true := by rw [bne_iff_ne]; exact hz0
    clear hz hz0
    go_enter Try.func6, Try.ntmps6
    go_wp2_with fail
    refine (rolls_true _).mono ?_
    rintro e w1 ⟨rfl, hb1⟩
    go_wp2_with fail
    refine (roll_any A _ c l rfl hlm width _ (by exact Hz.out) _ (by exact h.next hb1)).mono ?_
    rintro e w2 ⟨v, rfl, A2, c2, rfl, ho2, hb2'⟩
    have hb2 := bnext hb1 hb2'
    clear ho2
    go_wp2_with fail
    go_ret
    exact R1.mk rfl hb2
end Go.Proofs.Ytkcfhfplppdnnaa
