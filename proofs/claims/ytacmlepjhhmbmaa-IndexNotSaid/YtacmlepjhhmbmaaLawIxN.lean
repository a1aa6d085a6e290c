/- The walk of the law IndexNot: it returns true. Conditions: the arguments fit their kinds. -/
import Derived.Test.YtacmlepjhhmbmaaIxSet
import Derived.Test.YtacmlepjhhmbmaaGood
import Derived.Test.YtacmlepjhhmbmaaOpen
namespace Go.Proofs.Ytacmlepjhhmbmaa
open Go.RowKit

set_option maxRecDepth 1000000 in
set_option maxHeartbeats 16000000 in
theorem inot_any (w : World) (N : Int) (A : Option Addr) (n c : Nat) (a : List Int) (B : Option Addr) (m d : Nat) (b : List Int) (hn : n ≤ 17592186044415) (hm : m ≤ 17592186044415) (rA : RowN w A n c a) (rB : RowN w B m d b) :
    Calls Try.prog 4 #[.int .i64 N, .slice A n c, .slice B m d] w (R1 (.bool true) (Below w.heap.size w)) := by
  have HO := Lib.hid (fun (w : World) (rA : RowN w A n c a) (rB : RowN w B m d b) => or_any A n c a B m d b hn hm w rA rB)
  have hO : (orI a b).length ≤ n + m := by
    have h1 := orI_len a b
    rw [rA.1, rB.1] at h1
    exact h1
  have Na := Lib.hid (fun (w : World) (rA : RowN w A n c a) => not_any N A n c a (by omega) w rA)
  have Nb := Lib.hid (fun (w : World) (rB : RowN w B m d b) => not_any N B m d b (by omega) w rB)
  by_cases hN : N < 0 ∨ 1000 < N
  · have e : ∀ l, notI N l = ([], 1) := fun l => by unfold notI; rw [if_pos hN]
    rw [e] at Na Nb
    have No := Lib.hid (fun (A : Option Addr) (k c : Nat) (w : World) (r : RowN w A k c (orI a b)) => not_any N A k c (orI a b) (by have := r.1; omega) w r)
    rw [e] at No
    clear e hN
    go_enter Try.func4, Try.ntmps4
    go_wp2_with fail
    refine (indexes_true _).mono ?_
    rintro e0 w1 ⟨rfl, hb1⟩
    go_wp2_with fail
    refine (HO.out _ (rA.next hb1) (rB.next hb1)).mono ?_
    rintro e0 w2 ⟨v, rfl, A2, n2, c2, rfl, r2, hb2'⟩
    have hb2 := bnext hb1 hb2'
    go_wp2_with fail
    refine (No.out _ _ _ _ r2).mono ?_
    rintro e0 w3 ⟨v, rfl, A3, n3, c3, rfl, r3, hb3'⟩
    have hb3 := bnext hb2 hb3'
    have e3 : n3 = 0 := r3.1.symm
    subst e3
    clear r2 r3
    go_wp2_with fail
    refine (Na.out _ (rA.next hb3)).mono ?_
    rintro e0 w4 ⟨v, rfl, A4, n4, c4, rfl, r4, hb4'⟩
    have hb4 := bnext hb3 hb4'
    have e4 : n4 = 0 := r4.1.symm
    subst e4
    clear r4
    go_wp2_with fail
    refine (Nb.out _ (rB.next hb4)).mono ?_
    rintro e0 w5 ⟨v, rfl, A5, n5, c5, rfl, r5, hb5'⟩
    have hb5 := bnext hb4 hb5'
    have e5 : n5 = 0 := r5.1.symm
    subst e5
    clear r5
    go_wp2_with fail
    go_ret
    exact R1.mk (by simp) hb5
  · obtain ⟨k, rfl⟩ := Int.eq_ofNat_of_zero_le (show 0 ≤ N by omega)
    have e : ∀ l, notI (k : Int) l = (noneI k (setI l), 0) := fun l => by unfold notI; rw [if_neg hN, Int.toNat_natCast]
    rw [e] at Na Nb
    have hk : k ≤ 1000 := by omega
    have No := Lib.hid (fun (A : Option Addr) (q c : Nat) (w : World) (r : RowN w A q c (orI a b)) => not_any k A q c (orI a b) (by have := r.1; omega) w r)
    have lp := noneI_len k (setI a)
    have lq := noneI_len k (setI b)
    have l0 := noneI_len k (setI [])
    have hlaw1 := Lib.hid (morgan1 k a b)
    have hlaw2 := Lib.hid (morgan2 k a)
    obtain ⟨P, hP⟩ : ∃ P, noneI k (setI a) = P := ⟨_, rfl⟩
    obtain ⟨Q, hQ⟩ : ∃ Q, noneI k (setI b) = Q := ⟨_, rfl⟩
    obtain ⟨X, hX⟩ : ∃ X, noneI k (setI (orI a b)) = X := ⟨_, rfl⟩
    obtain ⟨Z, hZ⟩ : ∃ Z, noneI k (setI []) = Z := ⟨_, rfl⟩
    have Np := Lib.hid (fun (A : Option Addr) (q c : Nat) (w : World) (r : RowN w A q c P) => not_any k A q c P (by have := r.1; rw [hP] at lp; omega) w r)
    have Nz := Lib.hid (fun (w : World) => not_any k none 0 0 [] (by omega) w (RowN.nil w))
    rw [e] at No Np Nz
    rw [hP] at Na lp hlaw1 hlaw2
    rw [hQ] at Nb lq hlaw1
    rw [hX] at No hlaw1
    rw [hZ] at Nz l0 hlaw2
    obtain ⟨Y, hY⟩ : ∃ Y, noneI k (setI P) = Y := ⟨_, rfl⟩
    rw [hY] at Np hlaw2
    clear e hN hP hQ hX hZ hY hO
    go_enter Try.func4, Try.ntmps4
    go_wp2_with fail
    refine (indexes_true _).mono ?_
    rintro e0 w1 ⟨rfl, hb1⟩
    go_wp2_with fail
    refine (HO.out _ (rA.next hb1) (rB.next hb1)).mono ?_
    rintro e0 w2 ⟨v, rfl, A2, n2, c2, rfl, r2, hb2'⟩
    have hb2 := bnext hb1 hb2'
    go_wp2_with fail
    refine (No.out _ _ _ _ r2).mono ?_
    rintro e0 w3 ⟨v, rfl, A3, n3, c3, rfl, r3, hb3'⟩
    simp only [] at r3 ⊢
    have hb3 := bnext hb2 hb3'
    clear r2
    go_wp2_with fail
    refine (Na.out _ (rA.next hb3)).mono ?_
    rintro e0 w4 ⟨v, rfl, A4, n4, c4, rfl, r4, hb4'⟩
    simp only [] at r4 ⊢
    have hb4 := bnext hb3 hb4'
    have r3 := r3.next hb4'
    go_wp2_with fail
    refine (Nb.out _ (rB.next hb4)).mono ?_
    rintro e0 w5 ⟨v, rfl, A5, n5, c5, rfl, r5, hb5'⟩
    simp only [] at r5 ⊢
    have hb5 := bnext hb4 hb5'
    have r3 := r3.next hb5'
    have r4 := r4.next hb5'
    go_wp2_with fail
    refine (Np.out _ _ _ _ r4).mono ?_
    rintro e0 w6 ⟨v, rfl, A6, n6, c6, rfl, r6, hb6'⟩
    simp only [] at r6 ⊢
    have hb6 := bnext hb5 hb6'
    have r3 := r3.next hb6'
    have r4 := r4.next hb6'
    have r5 := r5.next hb6'
    go_wp2_with fail
    refine (Nz.out _).mono ?_
    rintro e0 w7 ⟨v, rfl, A7, n7, c7, rfl, r7, hb7'⟩
    simp only [] at r7 ⊢
    have hb7 := bnext hb6 hb7'
    have r3 := r3.next hb7'
    have r4 := r4.next hb7'
    have r5 := r5.next hb7'
    have r6 := r6.next hb7'
    have kb := Blk.new w7 27 #[Value.int .i64 0, .int .i64 0, .int .i64 0, .int .i64 0]
    have hb8' := one_allocN w7 (.cells #[Value.int .i64 0, .int .i64 0, .int .i64 0, .int .i64 0] 27)
    have hb8 := bnext hb7 hb8'
    have r3 := r3.next hb8'
    have r4 := r4.next hb8'
    have r5 := r5.next hb8'
    have r6 := r6.next hb8'
    have r7 := r7.next hb8'
    have hG : Has (w7.alloc (.cells #[Value.int .i64 0, .int .i64 0, .int .i64 0, .int .i64 0] 27)) (w7.alloc (.cells #[Value.int .i64 0, .int .i64 0, .int .i64 0, .int .i64 0] 27)).heap.size (some ⟨w7.heap.size, 0, none⟩) (i64s [0, 0, 0, 0]) := Has.fresh w7 _ _
    have HG := Lib.hid (good_any (some ⟨w7.heap.size, 0, none⟩) 4 4 [0, 0, 0, 0] rfl (by decide) _ hG)
    rw [show ([0, 0, 0, 0] : List Int).all (· == 0) = true from by decide] at HG
    have e4 := r4.1
    have e7 := r7.1
    clear hG kb
    go_wp2_with fail
    refine HG.out.mono ?_
    rintro e0 w9 ⟨rfl, hd9⟩
    have hb9' := drawn_below hd9
    have hb9 := bnext hb8 hb9'
    have r3 := r3.next hb9'
    have r4 := r4.next hb9'
    have r5 := r5.next hb9'
    have r6 := r6.next hb9'
    have r7 := r7.next hb9'
    go_wp2_with fail
    refine (and_any A4 n4 c4 P A5 n5 c5 Q (by omega) (by have := r5.1; omega) _ r4 r5).mono ?_
    rintro e0 w10 ⟨v, rfl, A10, n10, c10, rfl, r10, hb10'⟩
    have hb10 := bnext hb9 hb10'
    have r3 := r3.next hb10'
    have r6 := r6.next hb10'
    have r7 := r7.next hb10'
    rw [← hlaw1.out] at r10
    have HE := Lib.hid (equalN_any A3 A10 n3 n10 c3 c10 X X r3.1 r10.1 (Nat.le_trans r3.2.1 r3.2.2.1) (Nat.le_trans r10.2.1 r10.2.2.1) _ r3.2.2.2.2 r10.2.2.2.2)
    rw [decide_eq_true rfl] at HE
    clear r3 r4 r5 r10
    go_wp2_with fail
    refine HE.out.mono ?_
    rintro e0 w11 ⟨rfl, hd11⟩
    have hb11' := drawn_below hd11
    have hb11 := bnext hb10 hb11'
    have r6 := r6.next hb11'
    have r7 := r7.next hb11'
    go_wp2_with fail
    refine (and_any A7 n7 c7 Z A n c a (by omega) (by omega) _ r7 (rA.next hb11)).mono ?_
    rintro e0 w12 ⟨v, rfl, A12, n12, c12, rfl, r12, hb12'⟩
    have hb12 := bnext hb11 hb12'
    have r6 := r6.next hb12'
    rw [← hlaw2.out] at r12
    have HE2 := Lib.hid (equalN_any A6 A12 n6 n12 c6 c12 Y Y r6.1 r12.1 (Nat.le_trans r6.2.1 r6.2.2.1) (Nat.le_trans r12.2.1 r12.2.2.1) _ r6.2.2.2.2 r12.2.2.2.2)
    rw [decide_eq_true rfl] at HE2
    clear r6 r7 r12
    go_wp2_with fail
    refine HE2.out.mono ?_
    rintro e0 w13 ⟨rfl, hd13⟩
    have hb13 := bnext hb12 (drawn_below hd13)
    go_wp2_with fail
    go_ret
    exact R1.mk (by simp) hb13
theorem indexNot_true (w : World) (N : Int) (_ : -9223372036854775808 ≤ N ∧ N ≤ 9223372036854775807) (A : Option Addr) (c : Nat) (a : List Int) (_ : ∀ x ∈ a, in64 x) (lc : a.length ≤ c) (cm : c ≤ maxLen) (hA : A = none → c = 0) (has : Has w w.heap.size A (i64s a)) (hs : a.length ≤ 17592186043904)
    (B : Option Addr) (d : Nat) (b : List Int) (_ : ∀ x ∈ b, in64 x) (ld : b.length ≤ d) (dm : d ≤ maxLen) (hB : B = none → d = 0) (hasb : Has w w.heap.size B (i64s b)) (hsb : b.length ≤ 17592186043904) :
    Calls Try.prog 4 #[.int .i64 N, .slice A a.length c, .slice B b.length d] w (R1 (.bool true) (Below w.heap.size w)) :=
  inot_any w N A _ c a B _ d b (by omega) (by omega) ⟨rfl, lc, cm, hA, has⟩ ⟨rfl, ld, dm, hB, hasb⟩
end Go.Proofs.Ytacmlepjhhmbmaa
