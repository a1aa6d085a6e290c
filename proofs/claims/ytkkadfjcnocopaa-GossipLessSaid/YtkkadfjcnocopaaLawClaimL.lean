/- The walk of the law ClaimLattice: it returns true. Conditions: the arguments fit their kinds. -/
import Derived.Test.YtkkadfjcnocopaaMergeC
import Derived.Test.YtkkadfjcnocopaaLawNewer
import Derived.Test.YtkkadfjcnocopaaGood
namespace Go.Proofs.Ytkkadfjcnocopaa
open Go.RowKit

/-- a slice of claims in its cells -/
def LsAt (w : World) (A : Option Addr) (n c : Nat) (L : List ClE) : Prop := L.length = n ∧ n ≤ c ∧ c ≤ maxLen ∧ Has w w.heap.size A (clCs L) ∧ ∀ e ∈ L, e.t.ok w
theorem LsAt.next {w w' : World} {A : Option Addr} {n c : Nat} {L : List ClE} (h : LsAt w A n c L) (hb : Below w.heap.size w w') : LsAt w' A n c L :=
  ⟨h.1, h.2.1, h.2.2.1, h.2.2.2.1.next hb, fun e he => (h.2.2.2.2 e he).next hb⟩
theorem LsAt.drewN {w : World} {A : Option Addr} {n c : Nat} {L : List ClE} (h : LsAt w A n c L) (k : Nat) : LsAt (w.drewN k) A n c L := h.next (below_drewN (Below.refl _ _) k)
theorem LsAt.of {w : World} {B c : Nat} {A : Option Addr} {O : List ClE} (h : w.ownsRow B 54 4 (.slice A O.length c) O.length (clCs O)) (hr : RowsOwn w B O) : LsAt w A O.length c O :=
  ⟨rfl, (own_len h).1, (own_len h).2, Has.of_own h, hr.good⟩
def MergeQ (r : List Clm × Int) (w : World) (v : Value) (w' : World) : Prop :=
  ∃ (O : List ClE) (A : Option Addr) (c : Nat), v = .tuple #[.slice A O.length c, .int .i64 r.2] ∧ O.map ClE.x = r.1 ∧ LsAt w' A O.length c O ∧ Below w.heap.size w w'
theorem cmergeQ {A B : Option Addr} {n c m d : Nat} {L M : List ClE} {a b : List Clm} {r : List Clm × Int} (w : World) (ha : L.map ClE.x = a) (hb : M.map ClE.x = b) (hr : mergeN a b = r) (hL : LsAt w A n c L) (hM : LsAt w B m d M) :
    Calls Try.prog 35 #[.slice A n c, .slice B m d] w (RV (MergeQ r w)) := by
  subst ha hb hr
  refine (cmerge_any A n c L hL.1 hL.2.1 hL.2.2.1 B m d M hM.1 hM.2.1 hM.2.2.1 w hL.2.2.2.1 hM.2.2.2.1 hL.2.2.2.2 hM.2.2.2.2).mono ?_
  rintro e w' ⟨v, rfl, O, A', c', rfl, h1, h2, h3, h4⟩
  exact RV.mk ⟨O, A', c', rfl, h1, LsAt.of h2 h3, h4⟩
theorem sameQ {A B : Option Addr} {n c m d : Nat} {L M : List ClE} {r : Bool} (w : World) (hr : decide (L.map ClE.x = M.map ClE.x) = r) (hL : LsAt w A n c L) (hM : LsAt w B m d M) :
    Calls Try.prog 34 #[.slice A n c, .slice B m d] w (R1 (.bool r) (Below w.heap.size w)) := by
  subst hr
  exact sameClaims_any A B n m c d L M hL.1 hM.1 (Nat.le_trans hL.2.1 hL.2.2.1) (Nat.le_trans hM.2.1 hM.2.2.1) w hL.2.2.2.1 hM.2.2.2.1 hL.2.2.2.2 hM.2.2.2.2

theorem lat_bad {a b : List Clm} (h : (mergeN a b).2 ≠ 0) : (mergeN b a).2 ≠ 0 ∧ (mergeN a b).1 = [] ∧ (mergeN b a).1 = [] := by
  have h2 : (mergeN b a).2 ≠ 0 := fun e => h (mergeN_comm_zero.1 e)
  exact ⟨h2, mergeN_bad h, mergeN_bad h2⟩
theorem lat_ok {a b : List Clm} (h : (mergeN a b).2 = 0) : mergeN b a = mergeN a b ∧ mergeN (mergeN a b).1 b = mergeN a b := by
  have h2 : (mergeN b a).2 = 0 := mergeN_comm_zero.1 h
  obtain ⟨ka, kb, kl⟩ := mergeN_zero.1 h
  have ua := (checkC_zero.1 ka).2.2
  have ub := (checkC_zero.1 kb).2.2
  rw [mergeN_ok h, mergeN_ok h2, mergeC_comm ub ua]
  refine ⟨rfl, ?_⟩
  have hz : (mergeN (mergeC a b) b).2 = 0 := mergeN_zero.2 ⟨mergeC_ok ka kb kl, kb, by rw [mergeC_again ua ub]; exact kl⟩
  rw [mergeN_ok hz, mergeC_again ua ub]
theorem lat_assoc {a b c : List Clm} (h0 : (mergeN a b).2 = 0) (h1 : (mergeN b c).2 = 0) (h2 : (mergeN (mergeN a b).1 c).2 = 0) (h3 : (mergeN a (mergeN b c).1).2 = 0) : (mergeN (mergeN a b).1 c).1 = (mergeN a (mergeN b c).1).1 := by
  obtain ⟨ka, kb, _⟩ := mergeN_zero.1 h0
  obtain ⟨_, kc, _⟩ := mergeN_zero.1 h1
  rw [mergeN_ok h2, mergeN_ok h3, mergeN_ok h0, mergeN_ok h1]
  exact mergeC_assoc (checkC_zero.1 ka).2.2 (checkC_zero.1 kb).2.2 (checkC_zero.1 kc).2.2

set_option maxRecDepth 1000000 in
set_option maxHeartbeats 4000000 in
theorem lattice_any (w : World) (A B C : Option Addr) (n c m d k e : Nat) (L M K : List ClE) (hL : LsAt w A n c L) (hM : LsAt w B m d M) (hK : LsAt w C k e K) :
    Calls Try.prog 9 #[.slice A n c, .slice B m d, .slice C k e] w (R1 (.bool true) (Below w.heap.size w)) := by
  obtain ⟨a, ha⟩ : ∃ a, L.map ClE.x = a := ⟨_, rfl⟩
  obtain ⟨b, hb⟩ : ∃ b, M.map ClE.x = b := ⟨_, rfl⟩
  obtain ⟨q, hq⟩ : ∃ q, K.map ClE.x = q := ⟨_, rfl⟩
  obtain ⟨⟨p, z⟩, hp⟩ : ∃ r, mergeN a b = r := ⟨_, rfl⟩
  have Ha := Lib.hid ha; clear ha
  have Hb := Lib.hid hb; clear hb
  have Hq := Lib.hid hq; clear hq
  have HL := Lib.hid hL; clear hL
  have HM := Lib.hid hM; clear hM
  have HK := Lib.hid hK; clear hK
  by_cases hz : z = 0
  · subst hz
    obtain ⟨g1, g2⟩ := lat_ok (a := a) (b := b) (by rw [hp])
    have g3 := lat_assoc (a := a) (b := b) (c := q) (by rw [hp])
    rw [hp] at g1 g2 g3
    simp only [] at g2 g3
    obtain ⟨⟨u, h⟩, hu⟩ : ∃ r, mergeN b q = r := ⟨_, rfl⟩
    obtain ⟨⟨x, i⟩, hx⟩ : ∃ r, mergeN p q = r := ⟨_, rfl⟩
    rw [hu, hx] at g3
    simp only [] at g3
    obtain ⟨⟨y, j⟩, hy⟩ : ∃ r, mergeN a u = r := ⟨_, rfl⟩
    rw [hy] at g3
    simp only [] at g3
    have Hp := Lib.hid hp; clear hp
    have Hu := Lib.hid hu; clear hu
    have Hx := Lib.hid hx; clear hx
    have Hy := Lib.hid hy; clear hy
    have G1 := Lib.hid g1; clear g1
    have G2 := Lib.hid g2; clear g2
    have G3 := Lib.hid g3; clear g3
    go_enter Try.func9, Try.ntmps9
    go_wp2_with fail
    refine (claims_true _).mono ?_
    rintro e0 w1 ⟨rfl, hb1⟩
    go_wp2_with fail
    refine (cmergeQ _ Ha.out Hb.out Hp.out (HL.out.next hb1) (HM.out.next hb1)).mono ?_
    rintro e0 w2 ⟨v, rfl, O1, A1, c1, rfl, s1, l1, hb2'⟩
    have hb2 := bnext hb1 hb2'
    have L1 := Lib.hid l1; clear l1
    have S1 := Lib.hid s1; clear s1
    go_wp2_with fail
    refine (cmergeQ _ Hb.out Ha.out G1.out (HM.out.next hb2) (HL.out.next hb2)).mono ?_
    rintro e0 w3 ⟨v, rfl, O2, A2, c2, rfl, s2, l2, hb3'⟩
    have hb3 := bnext hb2 hb3'
    have L1 := Lib.hid (L1.out.next hb3')
    have L2 := Lib.hid l2; clear l2
    have S2 := Lib.hid s2; clear s2
    go_wp2_with fail
    refine (cmergeQ _ S1.out Hb.out G2.out L1.out (HM.out.next hb3)).mono ?_
    rintro e0 w4 ⟨v, rfl, O3, A3, c3, rfl, s3, l3, hb4'⟩
    have hb4 := bnext hb3 hb4'
    have L1 := Lib.hid (L1.out.next hb4')
    have L2 := Lib.hid (L2.out.next hb4')
    have L3 := Lib.hid l3; clear l3
    have S3 := Lib.hid s3; clear s3
    go_wp2_with fail
    refine (cmergeQ _ Hb.out Hq.out Hu.out (HM.out.next hb4) (HK.out.next hb4)).mono ?_
    rintro e0 w5 ⟨v, rfl, O4, A4, c4, rfl, s4, l4, hb5'⟩
    have hb5 := bnext hb4 hb5'
    have L1 := Lib.hid (L1.out.next hb5')
    have L2 := Lib.hid (L2.out.next hb5')
    have L3 := Lib.hid (L3.out.next hb5')
    have L4 := Lib.hid l4; clear l4
    have S4 := Lib.hid s4; clear s4
    go_wp2_with fail
    refine (cmergeQ _ S1.out Hq.out Hx.out L1.out (HK.out.next hb5)).mono ?_
    rintro e0 w6 ⟨v, rfl, O5, A5, c5, rfl, s5, l5, hb6'⟩
    have hb6 := bnext hb5 hb6'
    have L1 := Lib.hid (L1.out.next hb6')
    have L2 := Lib.hid (L2.out.next hb6')
    have L3 := Lib.hid (L3.out.next hb6')
    have L4 := Lib.hid (L4.out.next hb6')
    have L5 := Lib.hid l5; clear l5
    have S5 := Lib.hid s5; clear s5
    go_wp2_with fail
    refine (cmergeQ _ Ha.out S4.out Hy.out (HL.out.next hb6) L4.out).mono ?_
    rintro e0 w7 ⟨v, rfl, O6, A6, c6, rfl, s6, l6, hb7'⟩
    have hb7 := bnext hb6 hb7'
    have L1 := Lib.hid (L1.out.next hb7')
    have L2 := Lib.hid (L2.out.next hb7')
    have L3 := Lib.hid (L3.out.next hb7')
    have L5 := Lib.hid (L5.out.next hb7')
    have L6 := Lib.hid l6; clear l6
    have S6 := Lib.hid s6; clear s6
    clear L4
    go_wp2_with fail
    refine (sameQ _ (decide_eq_true (by rw [S1.out, S2.out])) L1.out L2.out).mono ?_
    rintro e0 w8 ⟨rfl, hb8'⟩
    have hb8 := bnext hb7 hb8'
    have L1 := Lib.hid (L1.out.next hb8')
    have L3 := Lib.hid (L3.out.next hb8')
    have L5 := Lib.hid (L5.out.next hb8')
    have L6 := Lib.hid (L6.out.next hb8')
    go_wp2_with fail
    refine (sameQ _ (decide_eq_true (by rw [S3.out, S1.out])) L3.out L1.out).mono ?_
    rintro e0 w9 ⟨rfl, hb9'⟩
    have hb9 := bnext hb8 hb9'
    have L5 := Lib.hid (L5.out.next hb9')
    have L6 := Lib.hid (L6.out.next hb9')
    go_wp2_with fail
    obtain ⟨g, hg⟩ : ∃ g, ([h, i, j] : List Int).all (· == 0) = g := ⟨_, rfl⟩
    have Hg := Lib.hid hg
    refine (good_any _ 3 _ [h, i, j] rfl (by simp) _ (Has.fresh w9 #[.int .i64 h, .int .i64 i, .int .i64 j] _)).mono ?_
    rw [hg]
    clear hg
    rintro e0 w10 ⟨rfl, n10, rfl⟩
    have hbG : Below w9.heap.size w9 ((w9.alloc (.cells #[.int .i64 h, .int .i64 i, .int .i64 j] 27)).drewN n10) := below_drewN (one_alloc _ _) _
    have hb10 := bnext hb9 hbG
    have L5 := Lib.hid (L5.out.next hbG)
    have L6 := Lib.hid (L6.out.next hbG)
    cases g
    · go_wp2_with fail
      go_ret
      exact R1.mk rfl hb10
    · have hxy : x = y := by
        have := Hg.out
        simp at this
        exact G3.out this.1 this.2.1 this.2.2
      have Hxy := Lib.hid hxy; clear hxy
      go_wp2_with fail
      refine (sameQ _ (decide_eq_true (by rw [S5.out, S6.out, Hxy.out])) L5.out L6.out).mono ?_
      rintro e0 w11 ⟨rfl, hb11⟩
      go_wp2_with fail
      go_ret
      exact R1.mk rfl (bnext hb10 hb11)
  · obtain ⟨g1, g2, g3⟩ := lat_bad (a := a) (b := b) (by rw [hp]; exact hz)
    rw [hp] at g2
    simp only [] at g2
    subst g2
    obtain ⟨⟨p2, z2⟩, hp2⟩ : ∃ r, mergeN b a = r := ⟨_, rfl⟩
    rw [hp2] at g1 g3
    simp only [] at g1 g3
    subst g3
    have f1 : (z != 0) = true := by rw [bne_iff_ne]; exact hz
    have f2 : (z == 0) = false := by rw [beq_eq_false_iff_ne]; exact hz
    have f3 : (z2 == 0) = false := by rw [beq_eq_false_iff_ne]; exact g1
    have Hp := Lib.hid hp; clear hp
    have Hp2 := Lib.hid hp2; clear hp2
    go_enter Try.func9, Try.ntmps9
    go_wp2_with fail
    refine (claims_true _).mono ?_
    rintro e0 w1 ⟨rfl, hb1⟩
    go_wp2_with fail
    refine (cmergeQ _ Ha.out Hb.out Hp.out (HL.out.next hb1) (HM.out.next hb1)).mono ?_
    rintro e0 w2 ⟨v, rfl, O1, A1, c1, rfl, s1, l1, hb2'⟩
    have hb2 := bnext hb1 hb2'
    obtain rfl : O1 = [] := List.map_eq_nil_iff.1 s1
    clear l1 s1
    go_wp2_with fail
    refine (cmergeQ _ Hb.out Ha.out Hp2.out (HM.out.next hb2) (HL.out.next hb2)).mono ?_
    rintro e0 w3 ⟨v, rfl, O2, A2, c2, rfl, s2, l2, hb3'⟩
    have hb3 := bnext hb2 hb3'
    obtain rfl : O2 = [] := List.map_eq_nil_iff.1 s2
    clear l2 s2
    go_wp2_with fail
    go_ret
    exact R1.mk rfl hb3
theorem claimLattice_true (w : World) (A : Option Addr) (c : Nat) (L : List ClE) (hL : ∀ e ∈ L, e.good w) (h1 : L.length ≤ c) (h2 : c ≤ maxLen) (_ : A = none → c = 0) (h3 : Has w w.heap.size A (clCs L)) (_ : L.length * 56 ≤ 140737488351232)
    (B : Option Addr) (d : Nat) (M : List ClE) (hM : ∀ e ∈ M, e.good w) (m1 : M.length ≤ d) (m2 : d ≤ maxLen) (_ : B = none → d = 0) (m3 : Has w w.heap.size B (clCs M)) (_ : M.length * 56 ≤ 140737488351232)
    (C : Option Addr) (e : Nat) (K : List ClE) (hK : ∀ e ∈ K, e.good w) (k1 : K.length ≤ e) (k2 : e ≤ maxLen) (_ : C = none → e = 0) (k3 : Has w w.heap.size C (clCs K)) (_ : K.length * 56 ≤ 140737488351232) :
    Calls Try.prog 9 #[.slice A L.length c, .slice B M.length d, .slice C K.length e] w (R1 (.bool true) (Below w.heap.size w)) :=
  lattice_any w A B C _ c _ d _ e L M K ⟨rfl, h1, h2, h3, fun e he => (hL e he).1⟩ ⟨rfl, m1, m2, m3, fun e he => (hM e he).1⟩ ⟨rfl, k1, k2, k3, fun e he => (hK e he).1⟩
end Go.Proofs.Ytkkadfjcnocopaa
