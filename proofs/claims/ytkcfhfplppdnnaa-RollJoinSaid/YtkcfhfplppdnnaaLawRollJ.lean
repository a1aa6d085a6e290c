/- The walk of the law RollJoin: it returns true. Conditions: the arguments fit their kinds. -/
import Derived.Test.YtkcfhfplppdnnaaJoin
import Derived.Test.YtkcfhfplppdnnaaSameW
import Derived.Test.YtkcfhfplppdnnaaGood
namespace Go.Proofs.Ytkcfhfplppdnnaa
open Go.RowKit

theorem up_ordUp {l : List Smp} (h : l.Pairwise (fun x y => x.t < y.t)) : ∀ m, m ≤ l.length - 1 → ordUp l m = true := by
  intro m
  induction m with
  | zero => intro _; rfl
  | succ m ih =>
    intro hm
    rw [ordUp, ih (by omega), Bool.true_and, decide_eq_true_iff]
    rw [List.pairwise_iff_getElem] at h
    have := h m (m + 1) (by omega) (by omega) (by omega)
    rwa [at_eq (by omega), at_eq (by omega)]
theorem chkS_part {l k : List Smp} (h : chkS l = 0) (hk : k.Sublist l) : chkS k = 0 := by
  have h1 := chkS_ok h
  have h2 := hk.length_le
  unfold chkS
  rw [if_neg (by omega), if_pos (up_ordUp ((ordUp_up h1.2).sublist hk) _ (Nat.le_refl _))]
theorem farS_part {l k : List Smp} (h : farS l = false) (hk : k.Sublist l) : farS k = false := by
  unfold farS at h ⊢
  rw [List.any_eq_false] at h ⊢
  intro x hx
  exact h x ((hk.map oneW).subset hx)
theorem rollL_join {l : List Smp} {width : Int} (h : chkS l = 0) (hw : 1 ≤ width) (k : Nat) : joinUp (rollL (l.take k) width) (rollL (l.drop k) width) = rollL l width := by
  have := coal_join (k := k) (not_down (width := width) (by omega) (ones_down h))
  unfold rollL
  rw [List.map_take, List.map_take, List.map_drop, List.map_drop]
  exact this
theorem cut_any {A : Option Addr} {l : List Smp} {w : World} {k c : Nat} (h : Has w w.heap.size A (smpCs l)) (hlc : l.length ≤ c) (B : Option Addr) (hB : B = if c = k then A else A.map (·.add (k * 2))) : Has w w.heap.size B (smpCs (l.drop k)) := by
  have hcut := h.cut (k := k) (size := 2) (cap := c) (n := l.length) (by rw [smpCs_len]) hlc
  rw [smpCs_drop] at hcut
  rw [hB]
  exact hcut
theorem join_any' (A : Option Addr) (n c : Nat) (a : List Win) (hna : a.length = n) (hac : n ≤ c) (hc : c ≤ maxLen) (B : Option Addr) (m d : Nat) (b : List Win) (hmb : b.length = m) (hbd : m ≤ d) (hd : d ≤ maxLen)
    (la : n ≤ 1000) (lb : m ≤ 1000) (oa : okWs a) (ua : UpW a) (ob : okWs b) (ub : UpW b) (hs : sumN a + sumN b ≤ 1000000000) (hjl : (joinUp a b).length ≤ 1000) (r : List Win) (hr : joinUp a b = r) (w : World) (hA : Has w w.heap.size A (winCs a)) (hB : Has w w.heap.size B (winCs b)) :
    Calls Try.prog 40 #[.slice A n c, .slice B m d] w (RV (WinsP (r, 0) w)) := by
  subst hr
  exact join_any A n c a hna hac hc B m d b hmb hbd hd la lb oa ua ob ub hs hjl w hA hB

set_option maxRecDepth 1000000 in
set_option maxHeartbeats 8000000 in
theorem rollJoin_true (w : World) (A : Option Addr) (c : Nat) (l : List Smp) (_ : Smps l) (hlc : l.length ≤ c) (hc : c ≤ maxLen) (hnil : A = none → c = 0) (hH : Has w w.heap.size A (smpCs l)) (hr : l.length ≤ 8796093022207)
    (k : Int) (hkb : -9223372036854775808 ≤ k ∧ k ≤ 9223372036854775807) (width : Int) (hwb : -9223372036854775808 ≤ width ∧ width ≤ 9223372036854775807) :
    Calls Try.prog 12 #[.slice A l.length c, .int .i64 k, .int .i64 width] w (R1 (.bool true) (Below w.heap.size w)) := by
  have hlm : l.length ≤ maxLen := by omega
  rcases (show k < 0 ∨ (0 ≤ k ∧ (l.length : Int) < k) ∨ (0 ≤ k ∧ k ≤ (l.length : Int)) by omega) with h1 | ⟨h1, h2⟩ | ⟨h1, h2⟩
  all_goals try (
    go_enter Try.func12, Try.ntmps12
    go_wp2_with fail
    refine (rolls_true _).mono ?_
    rintro e w1 ⟨rfl, hb1⟩
    go_wp2_with fail
    go_ret
    exact R1.mk rfl hb1)
  obtain ⟨k, rfl⟩ := Int.eq_ofNat_of_zero_le h1
  have hkl : k ≤ l.length := by omega
  have q4 : (k : Int) ≤ (c : Int) := by omega
  obtain ⟨⟨a, z⟩, hz⟩ : ∃ p, rollN l width = p := ⟨_, rfl⟩
  have Hz := Lib.hid hz
  by_cases hz0 : z = 0
  · subst hz0
    obtain ⟨hck, hw1, hw2, hfar, he⟩ := rollN_ok (l := l) (width := width) (by rw [hz])
    have hst := List.take_sublist k l
    have hsd := List.drop_sublist k l
    have hc1 := chkS_part hck hst
    have hc2 := chkS_part hck hsd
    have e1 := Lib.hid (rollN_of hc1 ⟨hw1, hw2⟩ (farS_part hfar hst))
    have e2 := Lib.hid (rollN_of hc2 ⟨hw1, hw2⟩ (farS_part hfar hsd))
    have hj := rollL_join hck hw1 k
    rw [hz] at he
    injection he with he _
    rw [← he] at hj
    have oa := Lib.hid (rollL_ok hc1 hw1)
    have ua := Lib.hid (rollL_up hc1 hw1)
    have ob := Lib.hid (rollL_ok hc2 hw1)
    have ub := Lib.hid (rollL_up hc2 hw1)
    have hl1 := (chkS_ok hck).1
    have la := rollL_len (l.take k) width
    have lb := rollL_len (l.drop k) width
    have ll := rollL_len l width
    rw [← he] at ll
    have sa := told_sum (rollL_told (l := l.take k) hw1)
    have sb := told_sum (rollL_told (l := l.drop k) hw1)
    have lt : (l.take k).length = k := by rw [List.length_take]; omega
    have ld : (l.drop k).length = l.length - k := List.length_drop
    rw [lt] at la sa
    rw [ld] at lb sb
    have la' : (rollL (l.take k) width).length ≤ 1000 := by omega
    have lb' : (rollL (l.drop k) width).length ≤ 1000 := by omega
    have hss := Lib.hid (show sumN (rollL (l.take k) width) + sumN (rollL (l.drop k) width) ≤ 1000000000 by omega)
    have hal : a.length ≤ 1000 := by omega
    clear sa sb la lb ll he hz hck hfar hc1 hc2 hst hsd
    have Hj := Lib.hid hj; clear hj
    have Lt := Lib.hid lt; clear lt
    have Ld := Lib.hid ld; clear ld
    generalize rollL (l.take k) width = ra at *
    generalize rollL (l.drop k) width = rb at *
    go_enter Try.func12, Try.ntmps12
    go_wp2_with fail
    refine (rolls_true _).mono ?_
    rintro e w1 ⟨rfl, hb1⟩
    go_wp2_with fail
    refine (roll_any A _ c l rfl hlm width _ (by exact Hz.out) _ (by exact hH.next hb1)).mono ?_
    rintro e w2 ⟨v, rfl, A2, c2, rfl, ho2, hb2'⟩
    have hb2 := bnext hb1 hb2'
    have hw2 := Lib.hid (Has.of_own ho2); clear ho2
    go_wp2_with fail
    refine (roll_any A k c (l.take k) Lt.out (by omega) width _ (by exact e1.out) _ (by exact smpCs_take l k ▸ (hH.next hb2).take (k * 2))).mono ?_
    rintro e w3 ⟨v, rfl, A3, c3, rfl, ho3, hb3'⟩
    have hb3 := bnext hb2 hb3'
    have hw2 := Lib.hid (hw2.out.next hb3')
    obtain ⟨ca, cb⟩ := own_len ho3
    have hw3 := Lib.hid (Has.of_own ho3); clear ho3
    go_wp2_with fail
    all_goals
      refine (roll_any _ _ _ (l.drop k) (by rw [Ld.out]) (by omega) width _ (by exact e2.out) _ (by exact cut_any (hH.next hb3) hlc _ (by first | rw [if_pos (by assumption)] | rw [if_neg (by assumption)]))).mono ?_
      rintro e w4 ⟨v, rfl, A4, c4, rfl, ho4, hb4'⟩
      have hb4 := bnext hb3 hb4'
      have hw2 := Lib.hid (hw2.out.next hb4')
      have hw3 := Lib.hid (hw3.out.next hb4')
      obtain ⟨cc, cd⟩ := own_len ho4
      have hw4 := Lib.hid (Has.of_own ho4); clear ho4
      go_wp2_with fail
      refine (join_any' A3 _ c3 ra rfl ca cb A4 _ c4 rb rfl cc cd la' lb' oa.out ua.out ob.out ub.out hss.out (by rw [Hj.out]; exact hal) a (by exact Hj.out) _ (by exact hw3.out) (by exact hw4.out)).mono ?_
      rintro e w5 ⟨v, rfl, A5, c5, rfl, ho5, hb5'⟩
      have hb5 := bnext hb4 hb5'
      have hw2 := Lib.hid (hw2.out.next hb5')
      have hw5 := Lib.hid (Has.of_own ho5); clear ho5
      go_wp2_with fail
      refine (good_any _ 3 _ [0, 0, 0] rfl (by decide) _ (Has.fresh w5 #[.int .i64 0, .int .i64 0, .int .i64 0] _)).mono ?_
      rintro e w6 ⟨rfl, n6, rfl⟩
      go_wp2_with fail
      refine (equalW_any A2 A5 _ _ c2 c5 a a rfl rfl (by unfold maxLen; omega) (by unfold maxLen; omega) _ (by exact Has.drewN_size ((hw2.out.alloc (Nat.le_refl _) _).more (by simp)) _) (by exact Has.drewN_size ((hw5.out.alloc (Nat.le_refl _) _).more (by simp)) _)).mono ?_
      rintro e w7 ⟨rfl, n7, rfl⟩
      rw [decide_eq_true (rfl : a = a)]
      go_wp2_with fail
      go_ret
      exact R1.mk rfl (below_drewN (hb5.alloc hb5.size _) _)
  · have k1 := rollN_bad (l := l) (width := width) (by rw [hz]; exact hz0)
    rw [hz] at k1
    simp only [] at k1
    subst k1
    have f1 : (z != 0) = true := by rw [bne_iff_ne]; exact hz0
    clear hz hz0
    go_enter Try.func12, Try.ntmps12
    go_wp2_with fail
    refine (rolls_true _).mono ?_
    rintro e w1 ⟨rfl, hb1⟩
    go_wp2_with fail
    refine (roll_any A _ c l rfl hlm width _ (by exact Hz.out) _ (by exact hH.next hb1)).mono ?_
    rintro e w2 ⟨v, rfl, A2, c2, rfl, ho2, hb2'⟩
    have hb2 := bnext hb1 hb2'
    clear ho2
    go_wp2_with fail
    go_ret
    exact R1.mk rfl hb2
end Go.Proofs.Ytkcfhfplppdnnaa
