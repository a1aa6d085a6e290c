/- The walk of the law ChunkLattice: it returns true. Conditions: the arguments fit their kinds. -/
import Derived.Test.YtkcfhfplppdnnaaMerge
import Derived.Test.YtkcfhfplppdnnaaSame
import Derived.Test.YtkcfhfplppdnnaaGood
import Derived.Test.YtkcfhfplppdnnaaChunks
import Derived.Test.YtkcfhfplppdnnaaOwn
namespace Go.Proofs.Ytkcfhfplppdnnaa
open Go.RowKit

theorem ordUp_pair {l : List Smp} (h : ordUp l (l.length - 1) = true) : Up l := by
  unfold Up
  rw [List.pairwise_iff_getElem]
  intro i j hi hj hij
  have h1 := ord_mono h (show i + 1 ≤ j by omega) hj
  have h2 := ordUp_step h (show i < l.length - 1 by omega)
  rw [at_eq hj] at h1
  rw [at_eq hi] at h2
  omega
theorem up_ord {l : List Smp} (h : Up l) : ∀ k, k < l.length → ordUp l k = true
  | 0, _ => rfl
  | k + 1, hk => by
    have h1 := up_ord h k (by omega)
    have h2 := (List.pairwise_iff_getElem.1 h) k (k + 1) (by omega) hk (by omega)
    rw [ordUp, h1, at_eq (by omega), at_eq hk]
    simpa using h2
theorem chkS_up {l : List Smp} (h : Up l) (h1 : l.length ≤ 1000) : chkS l = 0 := by
  unfold chkS
  rw [if_neg (by omega), if_pos]
  cases l with
  | nil => rfl
  | cons x l => exact up_ord h _ (by simp)
theorem mergeN_ok {a b : List Smp} (h : (mergeN a b).2 = 0) : Up a ∧ Up b ∧ (mergeUp a b).length ≤ 1000 ∧ mergeN a b = (mergeUp a b, 0) := by
  unfold mergeN at h ⊢
  split at h
  · rename_i h1; exact absurd h h1
  · rename_i h1
    split at h
    · rename_i h2; exact absurd h h2
    · rename_i h2
      split at h
      · simp at h
      · rename_i h3
        have e1 : chkS a = 0 := by simpa using h1
        have e2 : chkS b = 0 := by simpa using h2
        refine ⟨ordUp_pair (chkS_ok e1).2, ordUp_pair (chkS_ok e2).2, by omega, ?_⟩
        rw [if_neg h1, if_neg h2, if_neg h3]
theorem mergeN_up {a b : List Smp} (ha : Up a) (hb : Up b) (la : a.length ≤ 1000) (lb : b.length ≤ 1000) (h : (mergeUp a b).length ≤ 1000) : mergeN a b = (mergeUp a b, 0) := by
  unfold mergeN
  rw [if_neg (by rw [chkS_up ha la]; simp), if_neg (by rw [chkS_up hb lb]; simp), if_neg (by omega)]
theorem mergeN_chk {a b : List Smp} (h : (mergeN a b).2 = 0) : chkS a = 0 ∧ chkS b = 0 := by
  unfold mergeN at h
  split at h
  · rename_i h1; exact absurd h h1
  · rename_i h1
    split at h
    · rename_i h2; exact absurd h h2
    · rename_i h2
      exact ⟨by simpa using h1, by simpa using h2⟩
theorem mergeN_len {a b : List Smp} (h : (mergeN a b).2 = 0) : a.length ≤ 1000 ∧ b.length ≤ 1000 :=
  ⟨(chkS_ok (mergeN_chk h).1).1, (chkS_ok (mergeN_chk h).2).1⟩
theorem mergeN_bad {a b : List Smp} (h : (mergeN a b).2 ≠ 0) : (mergeN a b).1 = [] := by
  unfold mergeN at h ⊢
  repeat' split
  all_goals first | rfl | (simp_all; done)
theorem mergeN_comm {a b : List Smp} (h : (mergeN a b).2 = 0) : mergeN b a = mergeN a b := by
  obtain ⟨ha, hb, hl, e⟩ := mergeN_ok h
  obtain ⟨la, lb⟩ := mergeN_len h
  rw [e, merge_comm ha hb]
  exact mergeN_up hb ha lb la (by rw [← merge_comm ha hb]; exact hl)
theorem mergeN_again {a b : List Smp} (h : (mergeN a b).2 = 0) : mergeN (mergeN a b).1 b = mergeN a b := by
  obtain ⟨ha, hb, hl, e⟩ := mergeN_ok h
  obtain ⟨la, lb⟩ := mergeN_len h
  rw [e]
  rw [mergeN_up (merge_up a b ha hb) hb hl lb (by rw [merge_self ha hb]; exact hl), merge_self ha hb]
theorem mergeN_assoc {a b c : List Smp} (h1 : (mergeN a b).2 = 0) (h2 : (mergeN b c).2 = 0) (h3 : (mergeN (mergeN a b).1 c).2 = 0) (h4 : (mergeN a (mergeN b c).1).2 = 0) :
    (mergeN (mergeN a b).1 c).1 = (mergeN a (mergeN b c).1).1 := by
  obtain ⟨ha, hb, _, e1⟩ := mergeN_ok h1
  obtain ⟨_, hc, _, e2⟩ := mergeN_ok h2
  obtain ⟨_, _, _, e3⟩ := mergeN_ok h3
  obtain ⟨_, _, _, e4⟩ := mergeN_ok h4
  rw [e3, e4, e1, e2]
  exact merge_assoc ha hb hc

theorem merge_any' (A : Option Addr) (n c : Nat) (a : List Smp) (hn : a.length = n) (hac : n ≤ c) (hc : c ≤ maxLen) (B : Option Addr) (m d : Nat) (b : List Smp) (hm : b.length = m) (hbd : m ≤ d) (hd : d ≤ maxLen) (l : List Smp) (z : Int) (hl : mergeN a b = (l, z)) (w : World) (hA : Has w w.heap.size A (smpCs a)) (hB : Has w w.heap.size B (smpCs b)) :
    Calls Try.prog 24 #[.slice A n c, .slice B m d] w (RV (RowsP (l, z) w)) := by
  subst hn hm
  rw [← hl]
  exact merge_any A c a hac hc B d b hbd hd w hA hB

set_option maxRecDepth 1000000 in
set_option maxHeartbeats 4000000 in
theorem chunkLattice_true (w : World) (A : Option Addr) (ca : Nat) (a : List Smp) (_ : Smps a) (hac : a.length ≤ ca) (hca : ca ≤ maxLen) (_ : A = none → ca = 0) (hA : Has w w.heap.size A (smpCs a)) (_ : a.length ≤ 8796093022207)
    (B : Option Addr) (cb : Nat) (b : List Smp) (_ : Smps b) (hbc : b.length ≤ cb) (hcb : cb ≤ maxLen) (_ : B = none → cb = 0) (hB : Has w w.heap.size B (smpCs b)) (_ : b.length ≤ 8796093022207)
    (C : Option Addr) (cc : Nat) (c : List Smp) (_ : Smps c) (hcc : c.length ≤ cc) (hccm : cc ≤ maxLen) (_ : C = none → cc = 0) (hC : Has w w.heap.size C (smpCs c)) (_ : c.length ≤ 8796093022207) :
    Calls Try.prog 8 #[.slice A a.length ca, .slice B b.length cb, .slice C c.length cc] w (R1 (.bool true) (Below w.heap.size w)) := by
  obtain ⟨⟨ab, e⟩, hab⟩ : ∃ p, mergeN a b = p := ⟨_, rfl⟩
  obtain ⟨⟨ba, f⟩, hba⟩ : ∃ p, mergeN b a = p := ⟨_, rfl⟩
  have Hab := Lib.hid hab
  have Hba := Lib.hid hba
  by_cases he : e = 0
  · have k0 : (mergeN a b).2 = 0 := by rw [hab]; exact he
    have k1 := mergeN_comm k0
    rw [hab, hba] at k1
    injection k1 with k1 k2
    subst k1 k2 he
    have kk := mergeN_again k0
    rw [hab] at kk
    have Hag := Lib.hid kk
    obtain ⟨⟨bc, g⟩, hbcN⟩ : ∃ p, mergeN b c = p := ⟨_, rfl⟩
    obtain ⟨⟨x, h⟩, hx⟩ : ∃ p, mergeN ba c = p := ⟨_, rfl⟩
    obtain ⟨⟨y, i⟩, hy⟩ : ∃ p, mergeN a bc = p := ⟨_, rfl⟩
    have Hbc := Lib.hid hbcN
    have Hx := Lib.hid hx
    have Hy := Lib.hid hy
    have HE : Hid ([g, h, i].all (· == 0) = true → x = y) := Lib.hid (by
      intro hg
      simp at hg
      obtain ⟨g0, h0, i0⟩ := hg
      have := mergeN_assoc (a := a) (b := b) (c := c) k0 (by rw [hbcN]; exact g0) (by rw [hab]; simp only []; rw [hx]; exact h0) (by rw [hbcN]; simp only []; rw [hy]; exact i0)
      rw [hab, hbcN] at this
      simp only [] at this
      rw [hx, hy] at this
      exact this)
    have hxl : x.length ≤ maxLen := by
      by_cases q : (mergeN ba c).2 = 0
      · have := (mergeN_ok q).2.2.1
        have e := (mergeN_ok q).2.2.2
        rw [hx] at e; injection e with e _; subst e; unfold maxLen; omega
      · have := mergeN_bad q
        rw [hx] at this; simp only [] at this; subst this; exact Nat.zero_le _
    have hyl : y.length ≤ maxLen := by
      by_cases q : (mergeN a bc).2 = 0
      · have := (mergeN_ok q).2.2.1
        have e := (mergeN_ok q).2.2.2
        rw [hy] at e; injection e with e _; subst e; unfold maxLen; omega
      · have := mergeN_bad q
        rw [hy] at this; simp only [] at this; subst this; exact Nat.zero_le _
    clear hab hba k0 kk hbcN hx hy
    go_enter Try.func8, Try.ntmps8
    go_wp2_with fail
    refine (chunks_true _).mono ?_
    rintro e w1 ⟨rfl, hb1⟩
    go_wp2_with fail
    refine (merge_any' A _ ca a rfl hac hca B _ cb b rfl hbc hcb _ _ (by exact Hab.out) _ (by exact hA.next hb1) (by exact hB.next hb1)).mono ?_
    rintro e w2 ⟨v, rfl, A2, c2, rfl, ho2, hb2'⟩
    have hb2 := bnext hb1 hb2'
    obtain ⟨l2, m2⟩ := own_len ho2
    have ho2 := Lib.hid ho2
    go_wp2_with fail
    refine (merge_any' B _ cb b rfl hbc hcb A _ ca a rfl hac hca _ _ (by exact Hba.out) _ (by exact hB.next hb2) (by exact hA.next hb2)).mono ?_
    rintro e w3 ⟨v, rfl, A3, c3, rfl, ho3, hb3'⟩
    have hb3 := bnext hb2 hb3'
    have ho2 := Lib.hid (own_next ho2.out hb3')
    have ho3 := Lib.hid ho3
    go_wp2_with fail
    refine (merge_any' A2 _ c2 ba rfl l2 m2 B _ cb b rfl hbc hcb _ _ (by exact Hag.out) _ (by exact Has.of_own ho2.out) (by exact hB.next hb3)).mono ?_
    rintro e w4 ⟨v, rfl, A4, c4, rfl, ho4, hb4'⟩
    have hb4 := bnext hb3 hb4'
    have ho2 := Lib.hid (own_next ho2.out hb4')
    have ho3 := Lib.hid (own_next ho3.out hb4')
    have ho4 := Lib.hid ho4
    go_wp2_with fail
    refine (same_any A2 A3 _ _ c2 c3 ba ba rfl rfl (by exact Nat.le_trans l2 m2) (by exact Nat.le_trans l2 m2) _ (by exact Has.of_own ho2.out) (by exact Has.of_own ho3.out)).mono ?_
    rintro e w5 ⟨rfl, n5, rfl⟩
    rw [decide_eq_true (rfl : ba = ba)]
    go_wp2_with fail
    refine (same_any A4 A2 _ _ c4 c2 ba ba rfl rfl (by exact Nat.le_trans l2 m2) (by exact Nat.le_trans l2 m2) _ (by exact Has.drewN_size (Has.of_own ho4.out) _) (by exact Has.drewN_size (Has.of_own ho2.out) _)).mono ?_
    rintro e w6 ⟨rfl, n6, rfl⟩
    rw [decide_eq_true (rfl : ba = ba)]
    have hb6 := below_drewN hb4 (n5 + n6)
    go_wp2_with fail
    refine (merge_any' B _ cb b rfl hbc hcb C _ cc c rfl hcc hccm _ _ (by exact Hbc.out) _ (by exact hB.next hb6) (by exact hC.next hb6)).mono ?_
    rintro e w7 ⟨v, rfl, A7, c7, rfl, ho7, hb7'⟩
    have hb7 := bnext hb6 hb7'
    have ho2 := Lib.hid (own_next (own_drewN ho2.out (n5 + n6)) hb7')
    obtain ⟨l7, m7⟩ := own_len ho7
    have ho7 := Lib.hid ho7
    go_wp2_with fail
    refine (merge_any' A2 _ c2 ba rfl l2 m2 C _ cc c rfl hcc hccm _ _ (by exact Hx.out) _ (by exact Has.of_own ho2.out) (by exact hC.next hb7)).mono ?_
    rintro e w8 ⟨v, rfl, A8, c8, rfl, ho8, hb8'⟩
    have hb8 := bnext hb7 hb8'
    have ho7 := Lib.hid (own_next ho7.out hb8')
    have ho8 := Lib.hid ho8
    go_wp2_with fail
    refine (merge_any' A _ ca a rfl hac hca A7 _ c7 bc rfl l7 m7 _ _ (by exact Hy.out) _ (by exact hA.next hb8) (by exact Has.of_own ho7.out)).mono ?_
    rintro e w9 ⟨v, rfl, A9, c9, rfl, ho9, hb9'⟩
    have hb9 := bnext hb8 hb9'
    have ho8 := Lib.hid (own_next ho8.out hb9')
    have ho9 := Lib.hid ho9
    go_wp2_with fail
    refine (good_any _ 3 _ [g, h, i] rfl (by simp) _ (Has.fresh w9 #[.int .i64 g, .int .i64 h, .int .i64 i] _)).mono ?_
    rintro e w10 ⟨rfl, n10, rfl⟩
    obtain ⟨ok, hok⟩ : ∃ ok, [g, h, i].all (· == 0) = ok := ⟨_, rfl⟩
    have Hok := Lib.hid hok; clear hok
    rw [Hok.out]
    have hb10 := below_drewN (hb9.alloc hb9.size (.cells #[.int .i64 g, .int .i64 h, .int .i64 i] 25)) n10
    cases ok
    · go_wp2_with fail
      go_ret
      exact R1.mk rfl hb10
    · go_wp2_with fail
      refine (same_any A8 A9 _ _ c8 c9 x y rfl rfl hxl hyl _ (by exact Has.drewN_size (Has.of_own (ho8.out.alloc _)) _) (by exact Has.drewN_size (Has.of_own (ho9.out.alloc _)) _)).mono ?_
      rintro e w11 ⟨rfl, n11, rfl⟩
      have hxy : decide (x = y) = true := by rw [decide_eq_true_iff]; exact HE.out Hok.out
      rw [hxy]
      go_wp2_with fail
      go_ret
      have hb11 := below_drewN hb10 n11
      rw [World.drewN_drewN] at hb11
      exact R1.mk rfl hb11
  · have hf : f ≠ 0 := by
      intro hf
      have := mergeN_comm (a := b) (b := a) (by rw [hba]; exact hf)
      rw [hab, hba] at this
      injection this with _ this
      exact he (this.trans hf)
    have k1 := mergeN_bad (a := a) (b := b) (by rw [hab]; exact he)
    have k2 := mergeN_bad (a := b) (b := a) (by rw [hba]; exact hf)
    rw [hab] at k1
    rw [hba] at k2
    simp only [] at k1 k2
    subst k1 k2
    have f1 : (e != 0) = true := by rw [bne_iff_ne]; exact he
    have f2 : (e == 0) = false := by rw [beq_eq_false_iff_ne]; exact he
    have f3 : (f == 0) = false := by rw [beq_eq_false_iff_ne]; exact hf
    clear hab hba he hf
    go_enter Try.func8, Try.ntmps8
    go_wp2_with fail
    refine (chunks_true _).mono ?_
    rintro e w1 ⟨rfl, hb1⟩
    go_wp2_with fail
    refine (merge_any' A _ ca a rfl hac hca B _ cb b rfl hbc hcb _ _ (by exact Hab.out) _ (by exact hA.next hb1) (by exact hB.next hb1)).mono ?_
    rintro e w2 ⟨v, rfl, A2, c2, rfl, ho2, hb2'⟩
    have hb2 := bnext hb1 hb2'
    clear ho2
    go_wp2_with fail
    refine (merge_any' B _ cb b rfl hbc hcb A _ ca a rfl hac hca _ _ (by exact Hba.out) _ (by exact hB.next hb2) (by exact hA.next hb2)).mono ?_
    rintro e w3 ⟨v, rfl, A3, c3, rfl, ho3, hb3'⟩
    have hb3 := bnext hb2 hb3'
    clear ho3
    go_wp2_with fail
    go_ret
    exact R1.mk rfl hb3
end Go.Proofs.Ytkcfhfplppdnnaa
