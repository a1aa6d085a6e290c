/- The walk of the law RollAgain: it returns true. Conditions: the arguments fit their kinds. -/
import Derived.Test.YtkcfhfplppdnnaaRollCheck
import Derived.Test.YtkcfhfplppdnnaaSameW
import Derived.Test.YtkcfhfplppdnnaaGood
namespace Go.Proofs.Ytkcfhfplppdnnaa
open Go.RowKit

set_option maxRecDepth 1000000 in
set_option maxHeartbeats 2000000 in
theorem again_any (A : Option Addr) (n c : Nat) (l : List Win) (hn : l.length = n) (hl : n ≤ 1000) (hok : ∀ x ∈ l, okW x) (hup : UpW l) (width : Int) (r : List Win × Int) (hr : foldN l width = r) (w : World) (hA : Has w w.heap.size A (winCs l)) :
    Calls Try.prog 35 #[.slice A n c, .int .i64 width] w (RV (WinsP r w)) := by
  have Hok := Lib.hid hok; clear hok
  have Hup := Lib.hid hup; clear hup
  have Hr := Lib.hid hr; clear hr
  have Hn := Lib.hid hn; clear hn
  go_enter Try.func35, Try.ntmps35
  go_wp2_with fail
  refine (wcheck_any A n c l Hn.out hl Hok.out Hup.out _ (by exact hA)).mono ?_
  rintro e w1 ⟨rfl, hb1⟩
  go_wp2_with fail
  refine (fold_any' A n c l Hn.out hl (fun x hx => ⟨by have := (Hok.out x hx).1; omega, (Hok.out x hx).2.1⟩) width r (by exact Hr.out) _ (by exact hA.next hb1)).mono ?_
  rintro e w2 ⟨v, rfl, A2, c2, rfl, ho2, hb2⟩
  go_wp2_with fail
  go_ret2
  exact RV.mk ⟨A2, c2, rfl, own_less ho2 hb1.size, bnext hb1 hb2⟩

theorem farS_at {l : List Smp} (h : farS l = false) : ∀ s ∈ l, -1152921504606846976 ≤ s.t ∧ s.t ≤ 1152921504606846976 := by
  intro s hs
  unfold farS at h
  rw [List.any_eq_false] at h
  have h0 := h (oneW s) (by simp; exact ⟨s, hs, rfl⟩)
  have e : farW (oneW s) = (decide (s.t < -1152921504606846976) || decide (1152921504606846976 < s.t)) := rfl
  rw [e, Bool.or_eq_true, decide_eq_true_iff, decide_eq_true_iff] at h0
  omega
theorem told_le {width : Int} {a : List Win} {l : List Smp} (h : Told width a l) : ∀ x ∈ a, ∃ s ∈ l, x.t ≤ s.t := by
  induction h with
  | nil => simp
  | @cons w a g l ht _ ih =>
    intro x hx
    rcases List.mem_cons.1 hx with rfl | hx
    · have hg := ht.1
      cases g with
      | nil => exact absurd rfl hg
      | cons y g => exact ⟨y, by simp, (ht.2.2.1 y (by simp)).1⟩
    · obtain ⟨s, hs, h1⟩ := ih x hx
      exact ⟨s, by simp [hs], h1⟩
theorem again_eq {l : List Smp} {width k : Int} (hc : chkS l = 0) (hw : 1 ≤ width) (hk : 1 ≤ k) (hwk : width * k ≤ 1099511627776) (hf : farS l = false) (hlo : ∀ x ∈ rollL l width, -1152921504606846976 ≤ x.t) :
    foldN (rollL l width) (width * k) = (rollL l (width * k), 0) := by
  have hok := rollL_ok hc hw
  have hpos : 1 ≤ width * k := by
    have := Int.mul_le_mul hw hk (by decide) (by omega)
    omega
  rw [foldN_small (fun x hx => by have := (hok x hx).1; omega) (by rw [told_sum (rollL_told hw)]; have := (chkS_ok hc).1; omega), if_neg (by omega), if_neg]
  · unfold rollL
    rw [coal_again width k (by omega) (by omega)]
  · rw [Bool.not_eq_true, List.any_eq_false]
    intro x hx
    obtain ⟨s, hs, h1⟩ := told_le (rollL_told hw) x hx
    have h2 := hlo x hx
    have h3 := farS_at hf s hs
    simp [farW]
    omega

set_option maxRecDepth 1000000 in
set_option maxHeartbeats 8000000 in
theorem rollAgain_true (w : World) (A : Option Addr) (c : Nat) (l : List Smp) (_ : Smps l) (hlc : l.length ≤ c) (hc : c ≤ maxLen) (_ : A = none → c = 0) (h : Has w w.heap.size A (smpCs l)) (hr : l.length ≤ 8796093022207)
    (width : Int) (hwb : -9223372036854775808 ≤ width ∧ width ≤ 9223372036854775807) (k : Int) (hkb : -9223372036854775808 ≤ k ∧ k ≤ 9223372036854775807) :
    Calls Try.prog 9 #[.slice A l.length c, .int .i64 width, .int .i64 k] w (R1 (.bool true) (Below w.heap.size w)) := by
  have hlm : l.length ≤ maxLen := by omega
  by_cases hgood : 1 ≤ width ∧ 1 ≤ k ∧ k ≤ 1000
  · obtain ⟨hw1, hk1, hk2⟩ := hgood
    have hk0 : (k == 0) = false := by rw [beq_eq_false_iff_ne]; omega
    by_cases hq : 1099511627776 / k < width
    · go_enter Try.func9, Try.ntmps9
      go_wp2_with fail
      refine (rolls_true _).mono ?_
      rintro e w1 ⟨rfl, hb1⟩
      go_wp2_with fail
      go_ret
      exact R1.mk rfl hb1
    · have hmul : width * k ≤ 1099511627776 := (Int.le_ediv_iff_mul_le (by omega)).1 (by omega)
      have hpos : 1 ≤ width * k := by
        have := Int.mul_le_mul hw1 hk1 (by decide) (by omega)
        omega
      have hwm : width ≤ 1099511627776 := by
        have := Int.mul_le_mul_of_nonneg_left hk1 (show 0 ≤ width by omega)
        omega
      obtain ⟨⟨a, z⟩, hz⟩ : ∃ p, rollN l width = p := ⟨_, rfl⟩
      obtain ⟨⟨b, y⟩, hy⟩ : ∃ p, rollN l (width * k) = p := ⟨_, rfl⟩
      obtain ⟨W, hW⟩ : ∃ W, width * k = W := ⟨_, rfl⟩
      have eW : wrap64 (width * k) = W := by rw [hW]; exact IntWalk.wrap64_in _ (by omega)
      have Hz := Lib.hid hz
      have Hy := Lib.hid hy
      rw [hW] at Hy
      by_cases hz0 : z = 0
      · subst hz0
        obtain ⟨hck, _, _, hfar, he⟩ := rollN_ok (l := l) (width := width) (by rw [hz])
        have he2 := rollN_of (width := width * k) hck ⟨hpos, hmul⟩ hfar
        rw [hy] at he2
        injection he2 with he2 he3
        subst he3
        rw [hz] at he
        injection he with he _
        subst he
        have hal : (rollL l width).length ≤ 1000 := by have := rollL_len l width; have := (chkS_ok hck).1; omega
        have hbl : b.length ≤ maxLen := by rw [he2]; have := rollL_len l (width * k); omega
        have hok := Lib.hid (rollL_ok hck hw1)
        have hup := Lib.hid (rollL_up hck hw1)
        have hag := Lib.hid (fun hlo => again_eq hck hw1 hk1 hmul hfar hlo)
        rw [← he2, hW] at hag
        clear hz hy he2 hck hfar hmul hpos hW
        generalize rollL l width = a at hal hok hup hag Hz
        go_enter Try.func9, Try.ntmps9
        go_wp2_with fail
        refine (rolls_true _).mono ?_
        rintro e w1 ⟨rfl, hb1⟩
        go_wp2_with fail
        refine (roll_any A _ c l rfl hlm width _ (by exact Hz.out) _ (by exact h.next hb1)).mono ?_
        rintro e w2 ⟨v, rfl, A2, c2, rfl, ho2, hb2'⟩
        have hb2 := bnext hb1 hb2'
        have hw2 := Lib.hid (Has.of_own ho2); clear ho2
        go_wp2_with fail
        refine (roll_any A _ c l rfl hlm W _ (by exact Hy.out) _ (by exact h.next hb2)).mono ?_
        rintro e w3 ⟨v, rfl, A3, c3, rfl, ho3, hb3'⟩
        have hb3 := bnext hb2 hb3'
        have hw3 := Lib.hid (Has.of_own ho3); clear ho3
        have hw2 := Lib.hid (hw2.out.next hb3')
        go_wp2_with fail
        go_loopw [62] (fun i wr => ∃ j : Nat, j ≤ a.length ∧ i = .int .i64 (j : Nat) ∧ Hid (∀ q, q < j → -1152921504606846976 ≤ (at_ a q).t) ∧ Below w3.heap.size w3 wr) (fun i _ => a.length + 5 - (intOf i).toNat)
        case atStart => exact ⟨0, by omega, rfl, Lib.hid (fun q hq => by omega), Below.refl _ _⟩
        case round =>
          obtain ⟨j, hj, rfl, hlo, hbr⟩ := hrel
          have hbs := hbr.size
          by_cases hlt : (j : Int) < (a.length : Int)
          · obtain ⟨ad, rfl, hadb, d0, d1, d2, d3, d4, d5, d6⟩ := (hw2.out.below hbr).win (show j < a.length by omega)
            by_cases ht : (at_ a j).t < -1152921504606846976
            · go_wp2_with fail
              go_ret
              exact R1.mk rfl (bnext hb3 (hbr.alloc hbs _))
            · have ht' : -1152921504606846976 ≤ (at_ a j).t := by omega
              go_wp2_with fail
              go_roundw
              case rel => exact ⟨j + 1, by omega, by go_num, Lib.hid (fun q hq => by rcases Nat.lt_or_ge q j with h1 | h1; exact hlo.out q h1; rw [show q = j by omega]; exact ht'), hbr.alloc hbs _⟩
              case measure => simp [intOf]; omega
          · have hall := Lib.hid (hag.out (fun x hx => by
              obtain ⟨q, hq, rfl⟩ := List.getElem_of_mem hx
              have := hlo.out q (by omega)
              rwa [at_eq hq] at this))
            have hwr := Lib.hid (hw2.out.next hbr)
            have hw3r := Lib.hid (hw3.out.next hbr)
            go_wp2_with fail
            refine (again_any A2 _ c2 a rfl hal hok.out hup.out W _ (by exact hall.out) _ (by exact hwr.out)).mono ?_
            rintro e w4 ⟨v, rfl, A4, c4, rfl, ho4, hb4⟩
            have hw4 := Lib.hid (Has.of_own ho4); clear ho4
            have hw34 := Lib.hid (hw3r.out.next hb4)
            have hb5 := bnext (bnext hb3 hbr) hb4
            go_wp2_with fail
            refine (good_any _ 2 _ [0, 0] rfl (by decide) _ (Has.fresh w4 #[.int .i64 0, .int .i64 0] _)).mono ?_
            rintro e w6 ⟨rfl, n6, rfl⟩
            go_wp2_with fail
            refine (equalW_any A3 A4 _ _ c3 c4 b b rfl rfl hbl hbl _ (by exact Has.drewN_size ((hw34.out.alloc (Nat.le_refl _) _).more (by simp)) _) (by exact Has.drewN_size ((hw4.out.alloc (Nat.le_refl _) _).more (by simp)) _)).mono ?_
            rintro e w7 ⟨rfl, n7, rfl⟩
            rw [decide_eq_true (rfl : b = b)]
            go_wp2_with fail
            go_ret
            exact R1.mk rfl (below_drewN (hb5.alloc hb5.size _) _)
      · have k1 := rollN_bad (l := l) (width := width) (by rw [hz]; exact hz0)
        rw [hz] at k1
        simp only [] at k1
        subst k1
        have hyz : b = [] ∧ y = z := by
          by_cases hck : chkS l = 0
          · rw [rollN_eq hck, if_neg (by omega)] at hz hy
            split at hz
            · rename_i hf
              rw [if_pos hf] at hy
              injection hy with h1 h2
              injection hz with h3 h4
              exact ⟨h1.symm, h2.symm.trans h4⟩
            · injection hz with _ h4
              exact absurd h4.symm hz0
          · unfold rollN at hz hy
            rw [if_pos hck] at hz hy
            injection hy with h1 h2
            injection hz with h3 h4
            exact ⟨h1.symm, h2.symm.trans h4⟩
        obtain ⟨rfl, rfl⟩ := hyz
        have f1 : (y != 0) = true := by rw [bne_iff_ne]; exact hz0
        clear hz hy hz0 hmul hpos hW
        go_enter Try.func9, Try.ntmps9
        go_wp2_with fail
        refine (rolls_true _).mono ?_
        rintro e w1 ⟨rfl, hb1⟩
        go_wp2_with fail
        refine (roll_any A _ c l rfl hlm width _ (by exact Hz.out) _ (by exact h.next hb1)).mono ?_
        rintro e w2 ⟨v, rfl, A2, c2, rfl, ho2, hb2'⟩
        have hb2 := bnext hb1 hb2'
        clear ho2
        go_wp2_with fail
        refine (roll_any A _ c l rfl hlm W _ (by exact Hy.out) _ (by exact h.next hb2)).mono ?_
        rintro e w3 ⟨v, rfl, A3, c3, rfl, ho3, hb3'⟩
        have hb3 := bnext hb2 hb3'
        clear ho3
        go_wp2_with fail
        go_ret
        exact R1.mk rfl hb3
  · rcases (show width < 1 ∨ (1 ≤ width ∧ k < 1) ∨ (1 ≤ width ∧ 1 ≤ k ∧ 1000 < k) by omega) with h1 | ⟨h1, h2⟩ | ⟨h1, h2, h3⟩
    all_goals
      clear hgood
      go_enter Try.func9, Try.ntmps9
      go_wp2_with fail
      refine (rolls_true _).mono ?_
      rintro e w1 ⟨rfl, hb1⟩
      go_wp2_with fail
      go_ret
      exact R1.mk rfl hb1
end Go.Proofs.Ytkcfhfplppdnnaa
