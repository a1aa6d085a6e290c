/- The walk of the law HandAbort: it returns true. Conditions: the arguments fit their kinds. -/
import Derived.Test.YtokilodekbjpnaaHandTw
namespace Go.Proofs.Ytokilodekbjpnaa
open Go.RowKit

set_option maxRecDepth 1000000 in
set_option maxHeartbeats 8000000 in
theorem habortlaw_any (w : World) (owner to : ByteArray) (hown : owner.size ≤ maxLen) (hto : to.size ≤ maxLen) (A B : Option Addr) (n c m d : Nat) (l k : List Int) (hl : l.length = n) (hk : k.length = m) (hn : n ≤ 70368744177664) (hm : m ≤ 70368744177664) (_ : n ≤ c) (_ : m ≤ d) (hA : Has w w.heap.size A (i64s l)) (hB : Has w w.heap.size B (i64s k)) (nn : Int) :
    Calls Try.prog 6 #[.string owner, .string to, .slice A n c, .slice B m d, .int .i64 nn] w (R1 (.bool true) (Below w.heap.size w)) := by
  have HL := Lib.hid hl
  have HK := Lib.hid hk
  have HA := Lib.hid hA
  have HB := Lib.hid hB
  clear hl hk hA hB
  go_enter Try.func6, Try.ntmps6
  go_wp2_with fail
  refine (hands_true _).mono ?_
  rintro e0 w1 ⟨rfl, hb1⟩
  go_wp2_with fail
  refine (hnew_any owner w1 hown).mono ?_
  rintro e0 w2 ⟨v, rfl, ⟨hnm, rfl, hst, hb2⟩ | ⟨hnm, rfl, hw2⟩⟩
  · have Hst := Lib.hid hst
    have Hb2 := Lib.hid hb2
    have Hb1 := Lib.hid hb1
    clear hst hb2 hb1
    obtain ⟨g, hg⟩ : ∃ g, w1.heap.size = g := ⟨_, rfl⟩
    have Hg := Lib.hid hg
    rw [hg]
    clear hg
    go_wp2_with fail
    refine (hnew_any owner w2 hown).mono ?_
    rintro e0 w3 ⟨v, rfl, ⟨_, rfl, hst3, hb3⟩ | ⟨hno, rfl, hw3⟩⟩
    · have HT := Lib.hid (Two.of Hb1.out Hst.out Hb2.out hst3 hb3)
      rw [Hg.out] at HT
      clear hst3 hb3 Hst Hb1 Hb2
      obtain ⟨q, hq⟩ : ∃ q, w2.heap.size = q := ⟨_, rfl⟩
      rw [hq] at HT ⊢
      clear hq Hg
      by_cases h60 : (60 : Int) < (n : Int) + (m : Int)
      · have hb3 := HT.out.bel
        go_wp2_with fail
        go_ret
        exact R1.mk (by simp) hb3
      · go_wp2_with fail
        go_loopw [74] (fun i wr => ∃ (j : Nat) (s r : Hnd), j ≤ n ∧ i = .int .i64 (j : Nat) ∧ Hid (Alike s r) ∧ Hid (s.to = emptyS) ∧ Hid (Two w wr g q s r)) (fun i _ => n - (intOf i).toNat)
        case atStart => exact ⟨0, _, _, by omega, rfl, Lib.hid (alike_new owner), Lib.hid rfl, HT⟩
        case round =>
          obtain ⟨j, s, r, hj, rfl, hal, hse, ht⟩ := hrel
          by_cases hlt : (j : Int) < (n : Int)
          · have l1 := Lib.hid (show j < l.length by rw [HL.out]; omega)
            obtain ⟨ad, rfl, _, c1⟩ := (HA.out.next ht.out.bel).at (i64s_at l1.out)
            go_wp2_with fail
            refine (write2 ht.out 1 (at_ l j)).mono ?_
            rintro e0 w5 ⟨rfl, ht5⟩
            have Ht5 := Lib.hid ht5
            clear ht5 c1
            go_wp2_with fail
            refine (write2 Ht5.out.swap 1 (at_ l j)).mono ?_
            rintro e0 w6 ⟨rfl, ht6⟩
            have Ht6 := Lib.hid ht6.swap
            clear ht6
            have Hal := Lib.hid (alike_wr hal.out 1 (at_ l j))
            go_wp2_with fail
            go_roundw
            case rel => exact ⟨j + 1, _, _, by omega, by go_num, Lib.hid Hal.out.1, Lib.hid (Hal.out.2.2.trans hse.out), Ht6⟩
            case measure => simp [intOf]; omega
          · go_wp2_with fail
            obtain ⟨⟨s5, f⟩, hp⟩ : ∃ x, prepH s to = x := ⟨_, rfl⟩
            have Hal5 := Lib.hid (show Alike s5 r by have := alike_prep hal.out to; rw [hp] at this; exact this)
            have Hin := Lib.hid (show (f = 0 ∧ s5.to ≠ emptyS) ∨ (f ≠ 0 ∧ f ≠ 15 ∧ s5.to = emptyS) by have := prep_to hse.out to; rw [hp] at this; exact this)
            have HP := Lib.hid (prep2 ht.out to hto)
            rw [hp] at HP
            clear hp
            refine (HP.out).mono ?_
            rintro e0 w5 ⟨rfl, ht5⟩
            have Ht5 := Lib.hid ht5
            clear ht5 HP
            go_wp2_with fail
            refine (copy2 Ht5.out nn).mono ?_
            rintro e0 w6 ⟨v, rfl, hv, ht6⟩
            subst hv
            have Ht6 := Lib.hid ht6
            have Hal6 := Lib.hid (alike_copy Hal5.out nn)
            have Hin6 := Lib.hid (show (f = 0 ∧ (copyH s5 nn).1.to ≠ emptyS) ∨ (f ≠ 0 ∧ f ≠ 15 ∧ (copyH s5 nn).1.to = emptyS) by rw [Hal6.out.2]; exact Hin.out)
            clear ht6 Hin
            obtain ⟨x1, hx1⟩ : ∃ x, copyH s5 nn = x := ⟨_, rfl⟩
            rw [hx1] at Ht6 Hal6 Hin6 ⊢
            obtain ⟨s6, x2, x3⟩ := x1
            clear hx1
            go_wp2_with fail
            go_loopw [93] (fun i wr => ∃ (j : Nat) (s r : Hnd), j ≤ m ∧ i = .int .i64 (j : Nat) ∧ Hid (Alike s r) ∧ Hid ((f = 0 ∧ s.to ≠ emptyS) ∨ (f ≠ 0 ∧ f ≠ 15 ∧ s.to = emptyS)) ∧ Hid (Two w wr g q s r)) (fun i _ => m - (intOf i).toNat)
            case atStart => exact ⟨0, _, _, by omega, rfl, Lib.hid Hal6.out.1, Hin6, Ht6⟩
            case round =>
              clear hal hse ht Hal5 Ht5 Hal6 Hin6 Ht6
              obtain ⟨j, s, r, hj, rfl, hal, hin, ht⟩ := hrel
              by_cases hlt : (j : Int) < (m : Int)
              · have l1 := Lib.hid (show j < k.length by rw [HK.out]; omega)
                obtain ⟨ad, rfl, _, c1⟩ := (HB.out.next ht.out.bel).at (i64s_at l1.out)
                have Hal := Lib.hid (alike_wr hal.out 1 (at_ k j))
                have H1 := Lib.hid (write2 ht.out 1 (at_ k j))
                obtain ⟨⟨s5, f5⟩, hp⟩ : ∃ x, wrH s 1 (at_ k j) = x := ⟨_, rfl⟩
                rw [hp] at H1 Hal
                clear hp
                go_wp2_with fail
                refine (H1.out).mono ?_
                rintro e0 w5 ⟨rfl, ht5⟩
                have H2 := Lib.hid (write2 ht5.swap 1 (at_ k j))
                obtain ⟨⟨r5, g5⟩, hp⟩ : ∃ x, wrH r 1 (at_ k j) = x := ⟨_, rfl⟩
                rw [hp] at H2 Hal
                clear hp ht5 c1 H1
                go_wp2_with fail
                refine (H2.out).mono ?_
                rintro e0 w6 ⟨rfl, ht6⟩
                have Ht6 := Lib.hid ht6.swap
                clear ht6 H2
                have hne : (f5 != g5) = false := by rw [show f5 = g5 from Hal.out.2.1]; simp
                go_wp2_with fail
                go_roundw
                case rel => exact ⟨j + 1, _, _, by omega, by go_num, Lib.hid Hal.out.1, Lib.hid (by have e : s5.to = s.to := Hal.out.2.2; rw [e]; exact hin.out), Ht6⟩
                case measure => simp [intOf]; omega
              · have HQ := Lib.hid (abort2 ht.out)
                rcases hin.out with ⟨rfl, hto0⟩ | ⟨f0, f15, hto0⟩
                · rw [abort_in hto0] at HQ
                  clear hin hto0
                  go_wp2_with fail
                  refine (HQ.out).mono ?_
                  rintro e0 w7 ⟨rfl, ht7⟩
                  have HT7 := Lib.hid ht7
                  have Hal7 := Lib.hid (alike_crash hal.out)
                  have Hto7 := Lib.hid (show (crashH s).to = emptyS from rfl)
                  obtain ⟨s7, hs7⟩ : ∃ x, crashH s = x := ⟨_, rfl⟩
                  rw [hs7] at HT7 Hal7 Hto7
                  clear hs7 ht7 HQ ht hal
                  have Hvw := Lib.hid (show viewA s7 = viewA r by
                    obtain ⟨a1, a2, a3, a4⟩ := alike_left Hal7.out HT7.out.ok HT7.out.okr Hto7.out
                    unfold viewA
                    rw [a1, a2, a3, a4])
                  obtain ⟨lh, hlh⟩ : ∃ l, s7.has = l := ⟨_, rfl⟩
                  obtain ⟨hz, hhz⟩ : ∃ z, lh.length = z := ⟨_, rfl⟩
                  have hz1000 : hz ≤ 1000 := by rw [← hhz, ← hlh]; exact HT7.out.ok.len
                  have Hlh := Lib.hid hlh
                  have Hhz := Lib.hid hhz
                  clear hlh hhz
                  go_wp2_with fail
                  refine (read2 HT7.out Hal7.out.one lh hz Hlh.out Hhz.out).mono ?_
                  rintro e0 w8 ⟨v, rfl, A8, c8, rfl, hx8, hb8, ht8⟩
                  have HX8 := Lib.hid hx8
                  have HT8 := Lib.hid ht8
                  clear hx8 ht8 hb8
                  go_wp2_with fail
                  refine (read2 HT8.out.swap (Hal7.out.ep.symm.trans Hal7.out.one) lh hz (Hal7.out.has.symm.trans Hlh.out) Hhz.out).mono ?_
                  rintro e0 w9 ⟨v, rfl, A9, c9, rfl, hx9, hb9, ht9⟩
                  have HX9 := Lib.hid hx9
                  have HX8' := Lib.hid (HX8.out.next hb9)
                  have HT9 := Lib.hid ht9.swap
                  clear hx9 ht9 hb9 HX8 HT8
                  have hq1 := fun w => eqHand w r
                  unfold viewA at hq1
                  have hq2 := guardHand
                  go_wp2_with fail
                  refine (good_any _ 2 _ [0, 0] rfl (by decide) _ (Has.fresh w9 #[.int .i64 0, .int .i64 0] _)).mono ?_
                  rintro e w10 ⟨rfl, hd10⟩
                  have hb10 := ((Below.refl w9.heap.size w9).alloc (Nat.le_refl _) (.cells #[.int .i64 0, .int .i64 0] 25)).trans ((drawn_below hd10).mono (by simp))
                  have HX8 := Lib.hid (HX8'.out.next hb10)
                  have HX10 := Lib.hid (HX9.out.next hb10)
                  have HT10 := Lib.hid (HT9.out.next hb10)
                  clear hb10 hd10 HX8' HX9 HT9
                  go_wp2_with fail
                  refine (equalI64_any A8 A9 hz hz c8 c9 lh lh Hhz.out Hhz.out (by unfold maxLen; omega) (by unfold maxLen; omega) w10 HX8.out HX10.out).mono ?_
                  rintro e w11 ⟨rfl, hd11⟩
                  have HT11 := Lib.hid (HT10.out.next (drawn_below hd11))
                  clear hd11
                  have hdd : decide (lh = lh) = true := decide_eq_true rfl
                  rw [hdd]
                  go_wp2_with fail
                  refine (view2 HT11.out).mono ?_
                  rw [Hvw.out]
                  unfold viewA
                  rintro e w12 ⟨rfl, ht12⟩
                  have HT12 := Lib.hid ht12
                  clear ht12
                  go_wp2_with fail
                  refine (view2 HT12.out.swap).mono ?_
                  unfold viewA
                  rintro e w13 ⟨rfl, ht13⟩
                  have HT13 := Lib.hid ht13.swap
                  clear ht13
                  go_wp2_with fail
                  have HB13 := Lib.hid (abort2 HT13.out)
                  rw [abort_out Hto7.out] at HB13
                  refine (HB13.out).mono ?_
                  rintro e w14 ⟨rfl, ht14⟩
                  have HB14 := ht14.bel
                  clear ht14
                  go_wp2_with fail
                  go_ret
                  exact R1.mk (by simp) HB14
                · rw [abort_out hto0] at HQ
                  have f1 : (f == 0) = false := by rw [beq_eq_false_iff_ne]; exact f0
                  have f2 : (f != 0) = true := by rw [bne_iff_ne]; exact f0
                  have f3 : ((15 : Int) != f) = true := by rw [bne_iff_ne]; exact fun e => f15 e.symm
                  have Hto7 := Lib.hid hto0
                  clear hin hto0 f0 f15
                  go_wp2_with fail
                  refine (HQ.out).mono ?_
                  rintro e0 w6 ⟨rfl, ht6⟩
                  have HQ2 := Lib.hid (abort2 ht6)
                  rw [abort_out Hto7.out] at HQ2
                  clear ht6 HQ
                  go_wp2_with fail
                  refine (HQ2.out).mono ?_
                  rintro e0 w7 ⟨rfl, ht7⟩
                  have HT7 := Lib.hid ht7
                  have Hal7 := hal
                  obtain ⟨s7, hs7⟩ : ∃ x, s = x := ⟨_, rfl⟩
                  rw [hs7] at HT7 Hal7 Hto7
                  clear hs7 ht7 HQ2 ht hal
                  have Hvw := Lib.hid (show viewA s7 = viewA r by
                    obtain ⟨a1, a2, a3, a4⟩ := alike_left Hal7.out HT7.out.ok HT7.out.okr Hto7.out
                    unfold viewA
                    rw [a1, a2, a3, a4])
                  obtain ⟨lh, hlh⟩ : ∃ l, s7.has = l := ⟨_, rfl⟩
                  obtain ⟨hz, hhz⟩ : ∃ z, lh.length = z := ⟨_, rfl⟩
                  have hz1000 : hz ≤ 1000 := by rw [← hhz, ← hlh]; exact HT7.out.ok.len
                  have Hlh := Lib.hid hlh
                  have Hhz := Lib.hid hhz
                  clear hlh hhz
                  go_wp2_with fail
                  refine (read2 HT7.out Hal7.out.one lh hz Hlh.out Hhz.out).mono ?_
                  rintro e0 w8 ⟨v, rfl, A8, c8, rfl, hx8, hb8, ht8⟩
                  have HX8 := Lib.hid hx8
                  have HT8 := Lib.hid ht8
                  clear hx8 ht8 hb8
                  go_wp2_with fail
                  refine (read2 HT8.out.swap (Hal7.out.ep.symm.trans Hal7.out.one) lh hz (Hal7.out.has.symm.trans Hlh.out) Hhz.out).mono ?_
                  rintro e0 w9 ⟨v, rfl, A9, c9, rfl, hx9, hb9, ht9⟩
                  have HX9 := Lib.hid hx9
                  have HX8' := Lib.hid (HX8.out.next hb9)
                  have HT9 := Lib.hid ht9.swap
                  clear hx9 ht9 hb9 HX8 HT8
                  have hq1 := fun w => eqHand w r
                  unfold viewA at hq1
                  have hq2 := guardHand
                  go_wp2_with fail
                  refine (good_any _ 2 _ [0, 0] rfl (by decide) _ (Has.fresh w9 #[.int .i64 0, .int .i64 0] _)).mono ?_
                  rintro e w10 ⟨rfl, hd10⟩
                  have hb10 := ((Below.refl w9.heap.size w9).alloc (Nat.le_refl _) (.cells #[.int .i64 0, .int .i64 0] 25)).trans ((drawn_below hd10).mono (by simp))
                  have HX8 := Lib.hid (HX8'.out.next hb10)
                  have HX10 := Lib.hid (HX9.out.next hb10)
                  have HT10 := Lib.hid (HT9.out.next hb10)
                  clear hb10 hd10 HX8' HX9 HT9
                  go_wp2_with fail
                  refine (equalI64_any A8 A9 hz hz c8 c9 lh lh Hhz.out Hhz.out (by unfold maxLen; omega) (by unfold maxLen; omega) w10 HX8.out HX10.out).mono ?_
                  rintro e w11 ⟨rfl, hd11⟩
                  have HT11 := Lib.hid (HT10.out.next (drawn_below hd11))
                  clear hd11
                  have hdd : decide (lh = lh) = true := decide_eq_true rfl
                  rw [hdd]
                  go_wp2_with fail
                  refine (view2 HT11.out).mono ?_
                  rw [Hvw.out]
                  unfold viewA
                  rintro e w12 ⟨rfl, ht12⟩
                  have HT12 := Lib.hid ht12
                  clear ht12
                  go_wp2_with fail
                  refine (view2 HT12.out.swap).mono ?_
                  unfold viewA
                  rintro e w13 ⟨rfl, ht13⟩
                  have HT13 := Lib.hid ht13.swap
                  clear ht13
                  go_wp2_with fail
                  have HB13 := Lib.hid (abort2 HT13.out)
                  rw [abort_out Hto7.out] at HB13
                  refine (HB13.out).mono ?_
                  rintro e w14 ⟨rfl, ht14⟩
                  have HB14 := ht14.bel
                  clear ht14
                  go_wp2_with fail
                  go_ret
                  exact R1.mk (by simp) HB14
    · rw [hnm] at hno
      cases hno
  · rw [hw2]
    clear hw2
    go_wp2_with fail
    refine (hnew_any owner w1 hown).mono ?_
    rintro e0 w3 ⟨v, rfl, ⟨hno, rfl, hst3, hb3⟩ | ⟨hno, rfl, hw3⟩⟩
    · rw [hnm] at hno
      cases hno
    · rw [hw3]
      clear hw3
      go_wp2_with fail
      go_ret
      exact R1.mk (by simp) hb1
theorem handAbort_true (w : World) (owner : ByteArray) (sz : owner.size ≤ maxLen) (to : ByteArray) (sz2 : to.size ≤ maxLen)
    (A : Option Addr) (c : Nat) (l : List Int) (_ : ∀ x ∈ l, -9223372036854775808 ≤ x ∧ x ≤ 9223372036854775807) (h1 : l.length ≤ c) (_ : c ≤ maxLen) (_ : A = none → c = 0) (h4 : Has w w.heap.size A (l.map fun n => .int .i64 n)) (h5 : l.length ≤ 17592186043904)
    (B : Option Addr) (d : Nat) (k : List Int) (_ : ∀ x ∈ k, -9223372036854775808 ≤ x ∧ x ≤ 9223372036854775807) (g1 : k.length ≤ d) (_ : d ≤ maxLen) (_ : B = none → d = 0) (g4 : Has w w.heap.size B (k.map fun n => .int .i64 n)) (g5 : k.length ≤ 17592186043904)
    (nn : Int) (_ : -9223372036854775808 ≤ nn ∧ nn ≤ 9223372036854775807) :
    Calls Try.prog 6 #[.string owner, .string to, .slice A l.length c, .slice B k.length d, .int .i64 nn] w (R1 (.bool true) (Below w.heap.size w)) :=
  habortlaw_any w owner to sz sz2 A B _ c _ d l k rfl rfl (by omega) (by omega) h1 g1 h4 g4 nn
end Go.Proofs.Ytokilodekbjpnaa
