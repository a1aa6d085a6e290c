/- The walk of the law GossipBoth: it returns true. Conditions: the arguments fit their kinds. -/
import Derived.Test.YtkkadfjcnocopaaSwap
import Derived.Test.YtkkadfjcnocopaaOpenC
namespace Go.Proofs.Ytkkadfjcnocopaa
open Go.RowKit

theorem mergeC_self {P : List Clm} (h : UpC P) : mergeC P P = P :=
  lookC_ext _ _ (mergeC_up _ _ h h) h (fun t => by
    rw [lookC_merge _ _ h h]
    cases lookC P t <;> simp [joinC, newest_self])
theorem both_ok {a b : List Clm} (h : (mergeN a b).2 = 0) : swapN a b = (((mergeN a b).1, (mergeN a b).1), 0) ∧ swapN (mergeN a b).1 (mergeN a b).1 = (((mergeN a b).1, (mergeN a b).1), 0) := by
  obtain ⟨ka, kb, kl⟩ := mergeN_zero.1 h
  have ua := (checkC_zero.1 ka).2.2
  have ub := (checkC_zero.1 kb).2.2
  have hba : (mergeN b a).2 = 0 := mergeN_comm_zero.1 h
  have e0 : mergeN b a = mergeN a b := (lat_ok h).1
  obtain ⟨P, hP⟩ : ∃ P, (mergeN a b).1 = P := ⟨_, rfl⟩
  have hP2 : P = mergeC a b := by rw [← hP, mergeN_ok h]
  have kP : checkC P = 0 := by rw [hP2]; exact mergeC_ok ka kb kl
  have uP := (checkC_zero.1 kP).2.2
  have hPP : (mergeN P P).2 = 0 := mergeN_zero.2 ⟨kP, kP, by rw [mergeC_self uP, hP2]; exact kl⟩
  have ePP : (mergeN P P).1 = P := by rw [mergeN_ok hPP]; exact mergeC_self uP
  refine ⟨?_, ?_⟩
  · unfold swapN
    rw [if_neg (fun g => g h), told_eq h, told_eq hba, e0]
  · rw [hP]
    unfold swapN
    rw [if_neg (fun g => g hPP), told_eq hPP, ePP]

set_option maxRecDepth 1000000 in
set_option maxHeartbeats 4000000 in
theorem both_any' (w : World) (A B : Option Addr) (n c m d : Nat) (L M : List ClE) (hL : LsAt w A n c L) (hM : LsAt w B m d M) (hvL : ∀ e ∈ L, In64 e.v) (hvM : ∀ e ∈ M, In64 e.v) :
    Calls Try.prog 12 #[.slice A n c, .slice B m d] w (R1 (.bool true) (Below w.heap.size w)) := by
  obtain ⟨a, ha⟩ : ∃ a, L.map ClE.x = a := ⟨_, rfl⟩
  obtain ⟨b, hb⟩ : ∃ b, M.map ClE.x = b := ⟨_, rfl⟩
  have hva := Lib.hid (VOk.of hvL ha)
  have hvb := Lib.hid (VOk.of hvM hb)
  obtain ⟨⟨P, z⟩, hP⟩ : ∃ r, mergeN a b = r := ⟨_, rfl⟩
  have hvP := Lib.hid (show VOk P by have := hva.out.merge hvb.out; rw [hP] at this; exact this)
  have Ha := Lib.hid ha
  have Hb := Lib.hid hb
  have HL := Lib.hid hL
  have HM := Lib.hid hM
  have HP := Lib.hid hP
  by_cases hz : z = 0
  · subst hz
    obtain ⟨g1, g2⟩ := both_ok (a := a) (b := b) (by rw [hP])
    rw [hP] at g1 g2
    simp only [] at g1 g2
    have G1 := Lib.hid g1
    have G2 := Lib.hid g2
    clear ha hb hL hM hP hvL hvM g1 g2
    go_enter Try.func12, Try.ntmps12
    go_wp2_with fail
    refine (gossips_true _).mono ?_
    rintro e0 w1 ⟨rfl, hb1⟩
    go_wp2_with fail
    refine (swap_any _ Ha.out Hb.out G1.out (HL.out.next hb1) (HM.out.next hb1) hva.out hvb.out).mono ?_
    rintro e0 w2 ⟨v, rfl, O1, O2, A1, A2, c1, c2, rfl, s1, s2, l1, l2, hb2'⟩
    have hb2 := bnext hb1 hb2'
    have S1 := Lib.hid s1; clear s1
    have S2 := Lib.hid s2; clear s2
    have L1 := Lib.hid l1.ls; clear l1
    have L2 := Lib.hid l2.ls; clear l2
    go_wp2_with fail
    refine (cmergeQ _ Ha.out Hb.out HP.out (HL.out.next hb2) (HM.out.next hb2)).mono ?_
    rintro e0 w3 ⟨v, rfl, O3, A3, c3, rfl, s3, l3, hb3'⟩
    have hb3 := bnext hb2 hb3'
    have S3 := Lib.hid s3; clear s3
    have L3 := Lib.hid l3; clear l3
    have L1 := Lib.hid (L1.out.next hb3')
    have L2 := Lib.hid (L2.out.next hb3')
    go_wp2_with fail
    refine (swap_any _ S1.out S2.out G2.out L1.out L2.out hvP.out hvP.out).mono ?_
    rintro e0 w4 ⟨v, rfl, O4, O5, A4, A5, c4, c5, rfl, s4, s5, l4, l5, hb4'⟩
    have hb4 := bnext hb3 hb4'
    have S4 := Lib.hid s4; clear s4
    have S5 := Lib.hid s5; clear s5
    have L4 := Lib.hid l4.ls; clear l4
    have L5 := Lib.hid l5.ls; clear l5
    have L1 := Lib.hid (L1.out.next hb4')
    have L2 := Lib.hid (L2.out.next hb4')
    have L3 := Lib.hid (L3.out.next hb4')
    go_wp2_with fail
    refine (good_any _ 2 _ [0, 0] rfl (by decide) _ (Has.fresh w4 #[.int .i64 0, .int .i64 0] _)).mono ?_
    rintro e0 w5 ⟨rfl, n5, rfl⟩
    have hbG : Below w4.heap.size w4 ((w4.alloc (.cells #[.int .i64 0, .int .i64 0] 27)).drewN n5) := below_drewN (one_alloc _ _) _
    have hb5 := bnext hb4 hbG
    have L1 := Lib.hid (L1.out.next hbG)
    have L2 := Lib.hid (L2.out.next hbG)
    have L3 := Lib.hid (L3.out.next hbG)
    have L4 := Lib.hid (L4.out.next hbG)
    have L5 := Lib.hid (L5.out.next hbG)
    go_wp2_with fail
    refine (sameQ _ (decide_eq_true (by rw [S1.out, S3.out])) L1.out L3.out).mono ?_
    rintro e0 w6 ⟨rfl, hb6'⟩
    have hb6 := bnext hb5 hb6'
    have L2 := Lib.hid (L2.out.next hb6')
    have L3 := Lib.hid (L3.out.next hb6')
    have L4 := Lib.hid (L4.out.next hb6')
    have L5 := Lib.hid (L5.out.next hb6')
    go_wp2_with fail
    refine (sameQ _ (decide_eq_true (by rw [S2.out, S3.out])) L2.out L3.out).mono ?_
    rintro e0 w7 ⟨rfl, hb7'⟩
    have hb7 := bnext hb6 hb7'
    have L3 := Lib.hid (L3.out.next hb7')
    have L4 := Lib.hid (L4.out.next hb7')
    have L5 := Lib.hid (L5.out.next hb7')
    go_wp2_with fail
    refine (sameQ _ (decide_eq_true (by rw [S4.out, S3.out])) L4.out L3.out).mono ?_
    rintro e0 w8 ⟨rfl, hb8'⟩
    have hb8 := bnext hb7 hb8'
    have L3 := Lib.hid (L3.out.next hb8')
    have L5 := Lib.hid (L5.out.next hb8')
    go_wp2_with fail
    refine (sameQ _ (decide_eq_true (by rw [S5.out, S3.out])) L5.out L3.out).mono ?_
    rintro e0 w9 ⟨rfl, hb9⟩
    go_wp2_with fail
    go_ret
    exact R1.mk rfl (bnext hb8 hb9)
  · have hPe : P = [] := by have := mergeN_bad (a := a) (b := b) (by rw [hP]; exact hz); rw [hP] at this; exact this
    subst hPe
    have G1 := Lib.hid (show swapN a b = (([], []), z) by unfold swapN; rw [if_pos (by rw [hP]; exact hz), hP])
    have f1 : (z != 0) = true := by rw [bne_iff_ne]; exact hz
    clear ha hb hL hM hP hvL hvM
    go_enter Try.func12, Try.ntmps12
    go_wp2_with fail
    refine (gossips_true _).mono ?_
    rintro e0 w1 ⟨rfl, hb1⟩
    go_wp2_with fail
    refine (swap_any _ Ha.out Hb.out G1.out (HL.out.next hb1) (HM.out.next hb1) hva.out hvb.out).mono ?_
    rintro e0 w2 ⟨v, rfl, O1, O2, A1, A2, c1, c2, rfl, s1, s2, l1, l2, hb2'⟩
    have hb2 := bnext hb1 hb2'
    obtain rfl : O1 = [] := List.map_eq_nil_iff.1 s1
    obtain rfl : O2 = [] := List.map_eq_nil_iff.1 s2
    clear l1 s1 l2 s2
    go_wp2_with fail
    refine (cmergeQ _ Ha.out Hb.out HP.out (HL.out.next hb2) (HM.out.next hb2)).mono ?_
    rintro e0 w3 ⟨v, rfl, O3, A3, c3, rfl, s3, l3, hb3'⟩
    clear s3 l3
    go_wp2_with fail
    go_ret
    exact R1.mk (by simp) (bnext hb2 hb3')
theorem gossipBoth_true (w : World) (A : Option Addr) (c : Nat) (L : List ClE) (hL : ∀ e ∈ L, e.good w) (h1 : L.length ≤ c) (h2 : c ≤ maxLen) (_ : A = none → c = 0) (h3 : Has w w.heap.size A (clCs L)) (_ : L.length * 56 ≤ 140737488351232)
    (B : Option Addr) (d : Nat) (M : List ClE) (hM : ∀ e ∈ M, e.good w) (m1 : M.length ≤ d) (m2 : d ≤ maxLen) (_ : B = none → d = 0) (m3 : Has w w.heap.size B (clCs M)) (_ : M.length * 56 ≤ 140737488351232) :
    Calls Try.prog 12 #[.slice A L.length c, .slice B M.length d] w (R1 (.bool true) (Below w.heap.size w)) :=
  both_any' w A B _ c _ d L M ⟨rfl, h1, h2, h3, fun e he => (hL e he).1⟩ ⟨rfl, m1, m2, m3, fun e he => (hM e he).1⟩ (fun e he => (hL e he).2.1) (fun e he => (hM e he).2.1)
end Go.Proofs.Ytkkadfjcnocopaa
