/- The walk of the law IndexBoole: it returns true. Conditions: the rows hold at most 1048576 numbers. -/
import Derived.Test.YtacmlepjhhmbmaaIxSet
import Derived.Test.YtacmlepjhhmbmaaOpen
namespace Go.Proofs.Ytacmlepjhhmbmaa
open Go.RowKit

set_option maxRecDepth 1000000 in
set_option maxHeartbeats 1000000 in
theorem eqb_any (A : Option Addr) (n c : Nat) (a : List Int) (B : Option Addr) (m d : Nat) (b : List Int) (w : World) (hA : RowN w A n c a) (hB : RowN w B m d b) :
    Calls Try.prog 11 #[.slice A n c, .slice B m d] w (R1 (.bool (decide (a = b))) (Below w.heap.size w)) := by
  have H := Lib.hid (equalN_any A B n m c d a b hA.1 hB.1 (Nat.le_trans hA.2.1 hA.2.2.1) (Nat.le_trans hB.2.1 hB.2.2.1) w hA.2.2.2.2 hB.2.2.2.2)
  obtain ⟨z, hz⟩ : ∃ z, decide (a = b) = z := ⟨_, rfl⟩
  rw [hz] at H ⊢
  clear hA hB hz
  go_enter Try.func11, Try.ntmps11
  go_wp2_with fail
  refine H.out.mono ?_
  rintro e w1 ⟨rfl, hd⟩
  have hb := drawn_below hd
  go_wp2_with fail
  go_ret
  exact R1.mk rfl hb

set_option maxRecDepth 1000000 in
set_option maxHeartbeats 16000000 in
theorem boole_any (w : World) (A_a : Option Addr) (n_a c_a : Nat) (a : List Int) (A_b : Option Addr) (n_b c_b : Nat) (b : List Int) (A_c : Option Addr) (n_c c_c : Nat) (c : List Int) (ha : n_a ≤ 1048576) (hb : n_b ≤ 1048576) (hc : n_c ≤ 1048576)
    (r_a : RowN w A_a n_a c_a a) (r_b : RowN w A_b n_b c_b b) (r_c : RowN w A_c n_c c_c c) :
    Calls Try.prog 3 #[.slice A_a n_a c_a, .slice A_b n_b c_b, .slice A_c n_c c_c] w (R1 (.bool true) (Below w.heap.size w)) := by
  go_enter Try.func3, Try.ntmps3
  go_wp2_with fail
  refine (indexes_true _).mono ?_
  rintro e_ w0 ⟨rfl, hbw⟩
  replace r_a := r_a.next hbw
  replace r_b := r_b.next hbw
  replace r_c := r_c.next hbw
  go_wp2_with fail
  refine (and_any A_a n_a c_a a A_b n_b c_b b (by omega) (by omega) _ (by exact r_a) (by exact r_b)).mono ?_
  rintro e_ w1 ⟨v_, rfl, A_x1, n_x1, c_x1, rfl, r_x1, hb_⟩
  replace r_a := r_a.next hb_
  replace r_b := r_b.next hb_
  replace r_c := r_c.next hb_
  replace hbw := bnext hbw hb_
  have l_x1 : n_x1 ≤ n_a := by
    have h1 := andI_len a b
    have h2 := r_x1.1
    have h3 := r_a.1
    omega
  clear hb_
  go_wp2_with fail
  refine (and_any A_b n_b c_b b A_a n_a c_a a (by omega) (by omega) _ (by exact r_b) (by exact r_a)).mono ?_
  rintro e_ w2 ⟨v_, rfl, A_x2, n_x2, c_x2, rfl, r_x2, hb_⟩
  replace r_a := r_a.next hb_
  replace r_b := r_b.next hb_
  replace r_c := r_c.next hb_
  replace r_x1 := r_x1.next hb_
  replace hbw := bnext hbw hb_
  have l_x2 : n_x2 ≤ n_b := by
    have h1 := andI_len b a
    have h2 := r_x2.1
    have h3 := r_b.1
    omega
  clear hb_
  go_wp2_with fail
  refine (eqb_any A_x1 n_x1 c_x1 (andI a b) A_x2 n_x2 c_x2 (andI b a) _ (by exact r_x1) (by exact r_x2)).mono ?_
  rw [decide_eq_true (boole1 a b)]
  rintro e_ w3 ⟨rfl, hb_⟩
  clear r_x1
  clear r_x2
  replace r_a := r_a.next hb_
  replace r_b := r_b.next hb_
  replace r_c := r_c.next hb_
  replace hbw := bnext hbw hb_
  clear hb_
  go_wp2_with fail
  refine (or_any A_a n_a c_a a A_b n_b c_b b (by omega) (by omega) _ (by exact r_a) (by exact r_b)).mono ?_
  rintro e_ w4 ⟨v_, rfl, A_x3, n_x3, c_x3, rfl, r_x3, hb_⟩
  replace r_a := r_a.next hb_
  replace r_b := r_b.next hb_
  replace r_c := r_c.next hb_
  replace hbw := bnext hbw hb_
  have l_x3 : n_x3 ≤ n_a + n_b := by
    have h1 := orI_len a b
    have h2 := r_x3.1
    have h3 := r_a.1
    have h4 := r_b.1
    omega
  clear hb_
  go_wp2_with fail
  refine (or_any A_b n_b c_b b A_a n_a c_a a (by omega) (by omega) _ (by exact r_b) (by exact r_a)).mono ?_
  rintro e_ w5 ⟨v_, rfl, A_x4, n_x4, c_x4, rfl, r_x4, hb_⟩
  replace r_a := r_a.next hb_
  replace r_b := r_b.next hb_
  replace r_c := r_c.next hb_
  replace r_x3 := r_x3.next hb_
  replace hbw := bnext hbw hb_
  have l_x4 : n_x4 ≤ n_b + n_a := by
    have h1 := orI_len b a
    have h2 := r_x4.1
    have h3 := r_b.1
    have h4 := r_a.1
    omega
  clear hb_
  go_wp2_with fail
  refine (eqb_any A_x3 n_x3 c_x3 (orI a b) A_x4 n_x4 c_x4 (orI b a) _ (by exact r_x3) (by exact r_x4)).mono ?_
  rw [decide_eq_true (boole2 a b)]
  rintro e_ w6 ⟨rfl, hb_⟩
  clear r_x3
  clear r_x4
  replace r_a := r_a.next hb_
  replace r_b := r_b.next hb_
  replace r_c := r_c.next hb_
  replace hbw := bnext hbw hb_
  clear hb_
  go_wp2_with fail
  refine (or_any A_b n_b c_b b A_c n_c c_c c (by omega) (by omega) _ (by exact r_b) (by exact r_c)).mono ?_
  rintro e_ w7 ⟨v_, rfl, A_y1, n_y1, c_y1, rfl, r_y1, hb_⟩
  replace r_a := r_a.next hb_
  replace r_b := r_b.next hb_
  replace r_c := r_c.next hb_
  replace hbw := bnext hbw hb_
  have l_y1 : n_y1 ≤ n_b + n_c := by
    have h1 := orI_len b c
    have h2 := r_y1.1
    have h3 := r_b.1
    have h4 := r_c.1
    omega
  clear hb_
  go_wp2_with fail
  refine (and_any A_a n_a c_a a A_y1 n_y1 c_y1 (orI b c) (by omega) (by omega) _ (by exact r_a) (by exact r_y1)).mono ?_
  rintro e_ w8 ⟨v_, rfl, A_x5, n_x5, c_x5, rfl, r_x5, hb_⟩
  replace r_a := r_a.next hb_
  replace r_b := r_b.next hb_
  replace r_c := r_c.next hb_
  replace r_y1 := r_y1.next hb_
  replace hbw := bnext hbw hb_
  have l_x5 : n_x5 ≤ n_a := by
    have h1 := andI_len a (orI b c)
    have h2 := r_x5.1
    have h3 := r_a.1
    omega
  clear hb_
  go_wp2_with fail
  refine (and_any A_a n_a c_a a A_b n_b c_b b (by omega) (by omega) _ (by exact r_a) (by exact r_b)).mono ?_
  rintro e_ w9 ⟨v_, rfl, A_y2, n_y2, c_y2, rfl, r_y2, hb_⟩
  replace r_a := r_a.next hb_
  replace r_b := r_b.next hb_
  replace r_c := r_c.next hb_
  replace r_y1 := r_y1.next hb_
  replace r_x5 := r_x5.next hb_
  replace hbw := bnext hbw hb_
  have l_y2 : n_y2 ≤ n_a := by
    have h1 := andI_len a b
    have h2 := r_y2.1
    have h3 := r_a.1
    omega
  clear hb_
  go_wp2_with fail
  refine (and_any A_a n_a c_a a A_c n_c c_c c (by omega) (by omega) _ (by exact r_a) (by exact r_c)).mono ?_
  rintro e_ w10 ⟨v_, rfl, A_y3, n_y3, c_y3, rfl, r_y3, hb_⟩
  replace r_a := r_a.next hb_
  replace r_b := r_b.next hb_
  replace r_c := r_c.next hb_
  replace r_y1 := r_y1.next hb_
  replace r_x5 := r_x5.next hb_
  replace r_y2 := r_y2.next hb_
  replace hbw := bnext hbw hb_
  have l_y3 : n_y3 ≤ n_a := by
    have h1 := andI_len a c
    have h2 := r_y3.1
    have h3 := r_a.1
    omega
  clear hb_
  go_wp2_with fail
  refine (or_any A_y2 n_y2 c_y2 (andI a b) A_y3 n_y3 c_y3 (andI a c) (by omega) (by omega) _ (by exact r_y2) (by exact r_y3)).mono ?_
  rintro e_ w11 ⟨v_, rfl, A_x6, n_x6, c_x6, rfl, r_x6, hb_⟩
  replace r_a := r_a.next hb_
  replace r_b := r_b.next hb_
  replace r_c := r_c.next hb_
  replace r_y1 := r_y1.next hb_
  replace r_x5 := r_x5.next hb_
  replace r_y2 := r_y2.next hb_
  replace r_y3 := r_y3.next hb_
  replace hbw := bnext hbw hb_
  have l_x6 : n_x6 ≤ n_y2 + n_y3 := by
    have h1 := orI_len (andI a b) (andI a c)
    have h2 := r_x6.1
    have h3 := r_y2.1
    have h4 := r_y3.1
    omega
  clear hb_
  go_wp2_with fail
  refine (eqb_any A_x5 n_x5 c_x5 (andI a (orI b c)) A_x6 n_x6 c_x6 (orI (andI a b) (andI a c)) _ (by exact r_x5) (by exact r_x6)).mono ?_
  rw [decide_eq_true (boole3 a b c)]
  rintro e_ w12 ⟨rfl, hb_⟩
  clear r_y1
  clear r_x5
  clear r_y2
  clear r_y3
  clear r_x6
  replace r_a := r_a.next hb_
  replace r_b := r_b.next hb_
  replace r_c := r_c.next hb_
  replace hbw := bnext hbw hb_
  clear hb_
  go_wp2_with fail
  refine (and_any A_b n_b c_b b A_c n_c c_c c (by omega) (by omega) _ (by exact r_b) (by exact r_c)).mono ?_
  rintro e_ w13 ⟨v_, rfl, A_y4, n_y4, c_y4, rfl, r_y4, hb_⟩
  replace r_a := r_a.next hb_
  replace r_b := r_b.next hb_
  replace r_c := r_c.next hb_
  replace hbw := bnext hbw hb_
  have l_y4 : n_y4 ≤ n_b := by
    have h1 := andI_len b c
    have h2 := r_y4.1
    have h3 := r_b.1
    omega
  clear hb_
  go_wp2_with fail
  refine (or_any A_a n_a c_a a A_y4 n_y4 c_y4 (andI b c) (by omega) (by omega) _ (by exact r_a) (by exact r_y4)).mono ?_
  rintro e_ w14 ⟨v_, rfl, A_x7, n_x7, c_x7, rfl, r_x7, hb_⟩
  replace r_a := r_a.next hb_
  replace r_b := r_b.next hb_
  replace r_c := r_c.next hb_
  replace r_y4 := r_y4.next hb_
  replace hbw := bnext hbw hb_
  have l_x7 : n_x7 ≤ n_a + n_y4 := by
    have h1 := orI_len a (andI b c)
    have h2 := r_x7.1
    have h3 := r_a.1
    have h4 := r_y4.1
    omega
  clear hb_
  go_wp2_with fail
  refine (or_any A_a n_a c_a a A_b n_b c_b b (by omega) (by omega) _ (by exact r_a) (by exact r_b)).mono ?_
  rintro e_ w15 ⟨v_, rfl, A_y5, n_y5, c_y5, rfl, r_y5, hb_⟩
  replace r_a := r_a.next hb_
  replace r_b := r_b.next hb_
  replace r_c := r_c.next hb_
  replace r_y4 := r_y4.next hb_
  replace r_x7 := r_x7.next hb_
  replace hbw := bnext hbw hb_
  have l_y5 : n_y5 ≤ n_a + n_b := by
    have h1 := orI_len a b
    have h2 := r_y5.1
    have h3 := r_a.1
    have h4 := r_b.1
    omega
  clear hb_
  go_wp2_with fail
  refine (or_any A_a n_a c_a a A_c n_c c_c c (by omega) (by omega) _ (by exact r_a) (by exact r_c)).mono ?_
  rintro e_ w16 ⟨v_, rfl, A_y6, n_y6, c_y6, rfl, r_y6, hb_⟩
  replace r_a := r_a.next hb_
  replace r_b := r_b.next hb_
  replace r_c := r_c.next hb_
  replace r_y4 := r_y4.next hb_
  replace r_x7 := r_x7.next hb_
  replace r_y5 := r_y5.next hb_
  replace hbw := bnext hbw hb_
  have l_y6 : n_y6 ≤ n_a + n_c := by
    have h1 := orI_len a c
    have h2 := r_y6.1
    have h3 := r_a.1
    have h4 := r_c.1
    omega
  clear hb_
  go_wp2_with fail
  refine (and_any A_y5 n_y5 c_y5 (orI a b) A_y6 n_y6 c_y6 (orI a c) (by omega) (by omega) _ (by exact r_y5) (by exact r_y6)).mono ?_
  rintro e_ w17 ⟨v_, rfl, A_x8, n_x8, c_x8, rfl, r_x8, hb_⟩
  replace r_a := r_a.next hb_
  replace r_b := r_b.next hb_
  replace r_c := r_c.next hb_
  replace r_y4 := r_y4.next hb_
  replace r_x7 := r_x7.next hb_
  replace r_y5 := r_y5.next hb_
  replace r_y6 := r_y6.next hb_
  replace hbw := bnext hbw hb_
  have l_x8 : n_x8 ≤ n_y5 := by
    have h1 := andI_len (orI a b) (orI a c)
    have h2 := r_x8.1
    have h3 := r_y5.1
    omega
  clear hb_
  go_wp2_with fail
  refine (eqb_any A_x7 n_x7 c_x7 (orI a (andI b c)) A_x8 n_x8 c_x8 (andI (orI a b) (orI a c)) _ (by exact r_x7) (by exact r_x8)).mono ?_
  rw [decide_eq_true (boole4 a b c)]
  rintro e_ w18 ⟨rfl, hb_⟩
  clear r_y4
  clear r_x7
  clear r_y5
  clear r_y6
  clear r_x8
  replace r_a := r_a.next hb_
  replace r_b := r_b.next hb_
  replace r_c := r_c.next hb_
  replace hbw := bnext hbw hb_
  clear hb_
  go_wp2_with fail
  refine (or_any A_a n_a c_a a A_b n_b c_b b (by omega) (by omega) _ (by exact r_a) (by exact r_b)).mono ?_
  rintro e_ w19 ⟨v_, rfl, A_y7, n_y7, c_y7, rfl, r_y7, hb_⟩
  replace r_a := r_a.next hb_
  replace r_b := r_b.next hb_
  replace r_c := r_c.next hb_
  replace hbw := bnext hbw hb_
  have l_y7 : n_y7 ≤ n_a + n_b := by
    have h1 := orI_len a b
    have h2 := r_y7.1
    have h3 := r_a.1
    have h4 := r_b.1
    omega
  clear hb_
  go_wp2_with fail
  refine (and_any A_a n_a c_a a A_y7 n_y7 c_y7 (orI a b) (by omega) (by omega) _ (by exact r_a) (by exact r_y7)).mono ?_
  rintro e_ w20 ⟨v_, rfl, A_x9, n_x9, c_x9, rfl, r_x9, hb_⟩
  replace r_a := r_a.next hb_
  replace r_b := r_b.next hb_
  replace r_c := r_c.next hb_
  replace r_y7 := r_y7.next hb_
  replace hbw := bnext hbw hb_
  have l_x9 : n_x9 ≤ n_a := by
    have h1 := andI_len a (orI a b)
    have h2 := r_x9.1
    have h3 := r_a.1
    omega
  clear hb_
  go_wp2_with fail
  refine (or_any A_a n_a c_a a none 0 0 [] (by omega) (by omega) _ (by exact r_a) (RowN.nil _)).mono ?_
  rintro e_ w21 ⟨v_, rfl, A_xa, n_xa, c_xa, rfl, r_xa, hb_⟩
  replace r_a := r_a.next hb_
  replace r_b := r_b.next hb_
  replace r_c := r_c.next hb_
  replace r_y7 := r_y7.next hb_
  replace r_x9 := r_x9.next hb_
  replace hbw := bnext hbw hb_
  have l_xa : n_xa ≤ n_a + 0 := by
    have h1 := orI_len a []
    have h2 := r_xa.1
    have h3 := r_a.1
    have h4 : ([] : List Int).length = 0 := rfl
    omega
  clear hb_
  go_wp2_with fail
  refine (eqb_any A_x9 n_x9 c_x9 (andI a (orI a b)) A_xa n_xa c_xa (orI a []) _ (by exact r_x9) (by exact r_xa)).mono ?_
  rw [decide_eq_true (boole5 a b)]
  rintro e_ w22 ⟨rfl, hb_⟩
  clear r_y7
  clear r_x9
  clear r_xa
  replace r_a := r_a.next hb_
  replace r_b := r_b.next hb_
  replace r_c := r_c.next hb_
  replace hbw := bnext hbw hb_
  clear hb_
  go_wp2_with fail
  refine (and_any A_a n_a c_a a A_b n_b c_b b (by omega) (by omega) _ (by exact r_a) (by exact r_b)).mono ?_
  rintro e_ w23 ⟨v_, rfl, A_y8, n_y8, c_y8, rfl, r_y8, hb_⟩
  replace r_a := r_a.next hb_
  replace r_b := r_b.next hb_
  replace r_c := r_c.next hb_
  replace hbw := bnext hbw hb_
  have l_y8 : n_y8 ≤ n_a := by
    have h1 := andI_len a b
    have h2 := r_y8.1
    have h3 := r_a.1
    omega
  clear hb_
  go_wp2_with fail
  refine (or_any A_a n_a c_a a A_y8 n_y8 c_y8 (andI a b) (by omega) (by omega) _ (by exact r_a) (by exact r_y8)).mono ?_
  rintro e_ w24 ⟨v_, rfl, A_xb, n_xb, c_xb, rfl, r_xb, hb_⟩
  replace r_a := r_a.next hb_
  replace r_b := r_b.next hb_
  replace r_c := r_c.next hb_
  replace r_y8 := r_y8.next hb_
  replace hbw := bnext hbw hb_
  have l_xb : n_xb ≤ n_a + n_y8 := by
    have h1 := orI_len a (andI a b)
    have h2 := r_xb.1
    have h3 := r_a.1
    have h4 := r_y8.1
    omega
  clear hb_
  go_wp2_with fail
  refine (and_any A_a n_a c_a a A_a n_a c_a a (by omega) (by omega) _ (by exact r_a) (by exact r_a)).mono ?_
  rintro e_ w25 ⟨v_, rfl, A_xc, n_xc, c_xc, rfl, r_xc, hb_⟩
  replace r_a := r_a.next hb_
  replace r_b := r_b.next hb_
  replace r_c := r_c.next hb_
  replace r_y8 := r_y8.next hb_
  replace r_xb := r_xb.next hb_
  replace hbw := bnext hbw hb_
  have l_xc : n_xc ≤ n_a := by
    have h1 := andI_len a a
    have h2 := r_xc.1
    have h3 := r_a.1
    omega
  clear hb_
  go_wp2_with fail
  refine (eqb_any A_xb n_xb c_xb (orI a (andI a b)) A_xc n_xc c_xc (andI a a) _ (by exact r_xb) (by exact r_xc)).mono ?_
  rw [decide_eq_true (boole6 a b)]
  rintro e_ w26 ⟨rfl, hb_⟩
  clear r_y8
  clear r_xb
  clear r_xc
  replace r_a := r_a.next hb_
  replace r_b := r_b.next hb_
  replace r_c := r_c.next hb_
  replace hbw := bnext hbw hb_
  clear hb_
  go_wp2_with fail
  go_ret
  exact R1.mk rfl hbw
theorem indexBoole_true (w : World) (A : Option Addr) (c : Nat) (a : List Int) (_ : ∀ x ∈ a, in64 x) (lc : a.length ≤ c) (cm : c ≤ maxLen) (hA : A = none → c = 0) (has : Has w w.heap.size A (i64s a)) (hs : a.length ≤ 1048576)
    (A' : Option Addr) (c' : Nat) (a' : List Int) (_ : ∀ x ∈ a', in64 x) (lc' : a'.length ≤ c') (cm' : c' ≤ maxLen) (hA' : A' = none → c' = 0) (has' : Has w w.heap.size A' (i64s a')) (hs' : a'.length ≤ 1048576)
    (B : Option Addr) (d : Nat) (b : List Int) (_ : ∀ x ∈ b, in64 x) (ld : b.length ≤ d) (dm : d ≤ maxLen) (hB : B = none → d = 0) (hasb : Has w w.heap.size B (i64s b)) (hsb : b.length ≤ 1048576) :
    Calls Try.prog 3 #[.slice A a.length c, .slice A' a'.length c', .slice B b.length d] w (R1 (.bool true) (Below w.heap.size w)) :=
  boole_any w A _ c a A' _ c' a' B _ d b hs hs' hsb ⟨rfl, lc, cm, hA, has⟩ ⟨rfl, lc', cm', hA', has'⟩ ⟨rfl, ld, dm, hB, hasb⟩
end Go.Proofs.Ytacmlepjhhmbmaa
