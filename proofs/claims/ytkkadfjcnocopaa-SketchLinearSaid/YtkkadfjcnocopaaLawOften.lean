/- The walk of the law SketchOften: it returns true. Conditions: the arguments fit their kinds. -/
import Derived.Test.YtkkadfjcnocopaaLawMore
namespace Go.Proofs.Ytkkadfjcnocopaa
open Go.RowKit

section
variable {d wd : Nat} {C : List Int} {N : Int} {s : ByteArray}
theorem addC_zero (d3 : 1 ≤ wd) (hl : C.length = d * wd) (hn : N ≤ 1152921504606846976) (hrow : ∀ k, k < d → leftR N (rowK C wd k) = some 0) : addC C 0 s wd d = C := by
  apply List.ext_getElem
  · rw [addC_len]
  · intro j h1 h2
    rw [← at_eq h1, ← at_eq h2]
    have hj : j < d * wd := by rw [hl] at h2; exact h2
    have hi : j / wd < d := Nat.div_lt_of_lt_mul (by rw [Nat.mul_comm]; exact hj)
    have hq := Nat.mod_lt j d3
    have hjj : j / wd * wd + j % wd = j := by rw [Nat.mul_comm]; exact Nat.div_add_mod _ _
    have e2 := addC_at (N := N) (n := 0) (s := s) d3 hl (Int.le_refl _) (by omega) hrow hi hq
    rw [hjj] at e2
    rw [e2]
    split <;> omega
theorem chk_add {n : Int} (d1 : 1 ≤ d) (d2 : d ≤ 8) (d3 : 1 ≤ wd) (d4 : wd ≤ 200) (hl : C.length = d * wd) (n0 : 0 ≤ N) (hn0 : 0 ≤ n) (hn1 : N + n ≤ 1152921504606846976) (hrow : ∀ k, k < d → leftR N (rowK C wd k) = some 0) : chkSk d wd (addC C n s wd d) (N + n) = 0 := by
  have hrow' := addC_ok (s := s) d3 hl hn0 hn1 hrow
  unfold chkSk
  exact if_pos (show skOk d wd (addC C n s wd d) (N + n) from ⟨⟨by omega, by omega, by omega, by omega⟩, by rw [addC_len, hl, Int.natCast_mul], by omega, hn1, fun k hk => hrow' k (by simpa using hk)⟩)
theorem addN_one {k : Nat} (d1 : 1 ≤ d) (d2 : d ≤ 8) (d3 : 1 ≤ wd) (d4 : wd ≤ 200) (hl : C.length = d * wd) (n0 : 0 ≤ N) (hn1 : N + k + 1 ≤ 1152921504606846976) (hrow : ∀ k, k < d → leftR N (rowK C wd k) = some 0) :
    addN ⟨d, wd, addC C k s wd d, N + k⟩ s 1 = (⟨d, wd, addC C ((k + 1 : Nat) : Int) s wd d, N + k + 1⟩, 0) := by
  have h := chk_add (n := (k : Int)) (s := s) d1 d2 d3 d4 hl n0 (by omega) (by omega) hrow
  have e := addC_twice (n := (k : Int)) (m := 1) (s := s) d3 hl (by omega) (by omega) (by omega) hrow
  have h' : chkSk (⟨d, wd, addC C k s wd d, N + k⟩ : Sk).D (⟨d, wd, addC C k s wd d, N + k⟩ : Sk).W (⟨d, wd, addC C k s wd d, N + k⟩ : Sk).C (⟨d, wd, addC C k s wd d, N + k⟩ : Sk).N = 0 := h
  unfold addN
  rw [if_neg (fun x => x h'), if_neg (by omega), if_neg (by show ¬ _ < _; simp only []; omega)]
  simp only [Int.toNat_natCast]
  rw [e]
  rfl
end
theorem Has.far {w : World} {B : Nat} {A : Option Addr} {xs : List Value} (h : Has w B A xs) (p : Addr) (u : Value) (hA : ∀ ad, A = some ad → ad.block ≠ p.block) : Has (w.setCell p u) B A xs := fun hx => by
  obtain ⟨ad, rfl, hb, hc⟩ := h hx
  exact ⟨ad, rfl, hb, fun j v hu => (World.cell?_setCell_far _ _ _ _ (by rw [add_block]; exact fun e => hA ad rfl e.symm)).trans (hc j v hu)⟩
theorem IntAt.far {w : World} {A : Option Addr} {n c : Nat} {T : List Int} (h : IntAt w (.slice A n c) T) (p : Addr) (u : Value) (hA : ∀ ad, A = some ad → ad.block ≠ p.block) : IntAt (w.setCell p u) (.slice A n c) T := by
  obtain ⟨A0, c0, e0, k1, k2, k3, k4, k5⟩ := h
  injection e0 with e1 e2 e3
  subst e1 e2 e3
  exact ⟨_, _, rfl, k1, k2, k3, (by rw [World.size_setCell]; exact k4.far p u hA), k5⟩
theorem IntAt.lt {w : World} {A : Option Addr} {n c : Nat} {T : List Int} (h : IntAt w (.slice A n c) T) (hT : 0 < n) : ∀ ad, A = some ad → ad.block < w.heap.size := by
  obtain ⟨A0, c0, e0, k1, k2, k3, k4, k5⟩ := h
  injection e0 with e1 e2 e3
  subst e1 e2 e3
  intro ad e
  obtain ⟨ad', e', hb, _⟩ := k4 (by intro hx; have := congrArg List.length hx; rw [i64s_len] at this; simp at this; rw [this] at hT; simp at hT)
  rw [e] at e'
  injection e' with e'
  rw [e']; exact hb

theorem sameSk_any' (D W : Int) (A : Option Addr) (n c : Nat) (C : List Int) (N : Int) (D' W' : Int) (B : Option Addr) (m c' : Nat) (K : List Int) (N' : Int) (hn : C.length = n) (hm : K.length = m) (w : World) (hC : IntAt w (.slice A n c) C) (hK : IntAt w (.slice B m c') K) :
    Calls Try.prog 29 #[.agg #[.int .i64 D, .int .i64 W, .slice A n c, .int .i64 N], .agg #[.int .i64 D', .int .i64 W', .slice B m c', .int .i64 N']] w
      (R1 (.bool (decide (D = D') && (decide (W = W') && (decide (N = N') && decide (C = K))))) (Below w.heap.size w)) := by
  subst hn hm
  exact sameSk_any D W A c C N D' W' B c' K N' w hC hK

set_option maxRecDepth 1000000 in
set_option maxHeartbeats 8000000 in
theorem sketchOften_true (w : World) (D W : Int) (A : Option Addr) (c : Nat) (C : List Int) (N : Int) (hC : IntAt w (.slice A C.length c) C) (key : ByteArray) (hk : key.size ≤ maxLen) (n : Int) (hn : in64 n) :
    Calls Try.prog 5 #[.agg #[.int .i64 D, .int .i64 W, .slice A C.length c, .int .i64 N], .string key, .int .i64 n] w (R1 (.bool true) (Below w.heap.size w)) := by
  by_cases hr : n < 0 ∨ 50 < n
  · rcases (show n < 0 ∨ (¬ n < 0 ∧ 50 < n) by omega) with h1 | ⟨h1, h2⟩
    all_goals
      clear hr
      have hb1 := one_alloc w (.cells #[.int .i64 D, .int .i64 W, .slice A C.length c, .int .i64 N] 34)
      have hk1 : Blk (w.alloc (.cells #[.int .i64 D, .int .i64 W, .slice A C.length c, .int .i64 N] 34)) w.heap.size 34 #[.int .i64 D, .int .i64 W, .slice A C.length c, .int .i64 N] := Blk.new _ _ _
      go_enter Try.func5, Try.ntmps5
      go_wp2_with fail
      refine (sketches_true _).mono ?_
      rintro e w2 ⟨rfl, hb2'⟩
      have hb2 := bnext hb1 hb2'
      have hk2 := hk1.next hb2'
      have p0 : w2.cell? ⟨w.heap.size, 0, none⟩ = some (.int .i64 D) := hk2.cell 0
      have p1 : w2.cell? ⟨w.heap.size, 1, none⟩ = some (.int .i64 W) := hk2.cell 1
      have p2 : w2.cell? ⟨w.heap.size, 2, none⟩ = some (.slice A C.length c) := hk2.cell 2
      have p3 : w2.cell? ⟨w.heap.size, 3, none⟩ = some (.int .i64 N) := hk2.cell 3
      go_wp2_with fail
      go_ret
      exact R1.mk rfl hb2
  · have hr0 : ¬ n < 0 := by omega
    have hr1 : ¬ 50 < n := by omega
    have H3 := Lib.hid (fun (w : World) (h : IntAt w (.slice A C.length c) C) => add_any D W A c C N key hk n hn w h)
    rcases addN_cases ⟨D, W, C, N⟩ key n with ⟨h1, h2⟩ | ⟨h0, hn0, hn1, h4⟩
    · obtain ⟨⟨t, e3⟩, ht⟩ : ∃ x, addN ⟨D, W, C, N⟩ key n = x := ⟨_, rfl⟩
      rw [ht] at h1 h2
      simp only [] at h1 h2
      subst h2
      rw [ht] at H3
      have f1 : (e3 != 0) = true := by rw [bne_iff_ne]; exact h1
      clear ht h1 hr
      have hb1 := one_alloc w (.cells #[.int .i64 D, .int .i64 W, .slice A C.length c, .int .i64 N] 34)
      have hk1 : Blk (w.alloc (.cells #[.int .i64 D, .int .i64 W, .slice A C.length c, .int .i64 N] 34)) w.heap.size 34 #[.int .i64 D, .int .i64 W, .slice A C.length c, .int .i64 N] := Blk.new _ _ _
      go_enter Try.func5, Try.ntmps5
      go_wp2_with fail
      refine (sketches_true _).mono ?_
      rintro e w2 ⟨rfl, hb2'⟩
      have hb2 := bnext hb1 hb2'
      have hk2 := hk1.next hb2'
      have p0 : w2.cell? ⟨w.heap.size, 0, none⟩ = some (.int .i64 D) := hk2.cell 0
      have p1 : w2.cell? ⟨w.heap.size, 1, none⟩ = some (.int .i64 W) := hk2.cell 1
      have p2 : w2.cell? ⟨w.heap.size, 2, none⟩ = some (.slice A C.length c) := hk2.cell 2
      have p3 : w2.cell? ⟨w.heap.size, 3, none⟩ = some (.int .i64 N) := hk2.cell 3
      go_wp2_with fail
      refine (H3.out _ (by exact hC.next hb2)).mono ?_
      rintro e w5 ⟨v, rfl, A5, c5, rfl, hI, hb5'⟩
      have hb5 := bnext hb2 hb5'
      clear p0 p1 p2 p3
      obtain ⟨A0, c0, e0, k1, k2, k3, k4, k5⟩ := hI
      injection e0 with e1' _ e2'
      subst e1' e2'
      go_wp2_with fail
      refine (sameSk_any 0 0 _ _ [] 0 0 0 none 0 [] 0 _ ?k1 (intAt_nil _)).mono ?_
      case k1 => exact ⟨_, _, rfl, k1, k2, k3, k4.next (one_alloc _ _), k5⟩
      rintro e w6 ⟨rfl, hb6⟩
      go_wp2_with fail
      go_ret
      exact R1.mk rfl (bnext hb5 (bnext (one_alloc _ _) hb6))
    · have h0 : chkSk D W C N = 0 := h0
      have h4 : addN ⟨D, W, C, N⟩ key n = (⟨D, W, addC C n key W.toNat D.toNat, N + n⟩, 0) := h4
      have hn1 : N + n ≤ 1152921504606846976 := hn1
      rcases chkSk_cases D W C N with hx | ⟨_, d, wd, rfl, rfl, d1, d2, d3, d4, hl, n0, n1, hrow⟩
      · rw [hx] at h0; exact absurd h0 (by decide)
      rw [Int.toNat_natCast, Int.toNat_natCast] at h4
      rw [h4] at H3
      obtain ⟨j, rfl⟩ := Int.eq_ofNat_of_zero_le hn0
      have H1 := Lib.hid (fun (k : Nat) (hk : k < j) => addN_one (C := C) (N := N) (s := key) (k := k) d1 d2 d3 d4 hl n0 (by omega) hrow)
      have hz := Lib.hid (addC_zero (s := key) d3 hl n1 hrow)
      obtain ⟨m, hm⟩ : ∃ m, C.length = m := ⟨_, rfl⟩
      have hmp : 0 < m := by rw [← hm, hl]; exact Nat.mul_pos (by omega) (by omega)
      have HM := Lib.hid (fun k : Int => (addC_len C k key wd d).trans hm)
      have Hm := Lib.hid hm
      rw [hm] at H3 hC ⊢
      clear h4 h0 hl hrow hm hr
      have hAlt := hC.lt hmp
      have hb1 := one_alloc w (.cells #[.int .i64 d, .int .i64 wd, .slice A m c, .int .i64 N] 34)
      have hk1 : Blk (w.alloc (.cells #[.int .i64 d, .int .i64 wd, .slice A m c, .int .i64 N] 34)) w.heap.size 34 #[.int .i64 d, .int .i64 wd, .slice A m c, .int .i64 N] := Blk.new _ _ _
      go_enter Try.func5, Try.ntmps5
      go_wp2_with fail
      refine (sketches_true _).mono ?_
      rintro e w2 ⟨rfl, hb2'⟩
      have hb2 := bnext hb1 hb2'
      have hk2 := hk1.next hb2'
      have p0 : w2.cell? ⟨w.heap.size, 0, none⟩ = some (.int .i64 d) := hk2.cell 0
      have p1 : w2.cell? ⟨w.heap.size, 1, none⟩ = some (.int .i64 wd) := hk2.cell 1
      have p2 : w2.cell? ⟨w.heap.size, 2, none⟩ = some (.slice A m c) := hk2.cell 2
      have p3 : w2.cell? ⟨w.heap.size, 3, none⟩ = some (.int .i64 N) := hk2.cell 3
      go_wp2_with fail
      refine (H3.out _ (by exact hC.next hb2)).mono ?_
      rintro e w5 ⟨v, rfl, A5, c5, rfl, hI, hb5'⟩
      have hb5 := bnext hb2 hb5'
      have hk5 := hk2.next hb5'
      clear p0 p1 p2 p3
      simp only [HM.out] at hI ⊢
      have hA5 := hI.lt hmp
      have hIx := hI.next (one_alloc w5 (.cells #[.int .i64 d, .int .i64 wd, .slice A5 m c5, .int .i64 (N + (j : Int))] 34))
      have hkA : Blk (w5.alloc (.cells #[.int .i64 d, .int .i64 wd, .slice A5 m c5, .int .i64 (N + (j : Int))] 34)) w5.heap.size 34 #[.int .i64 d, .int .i64 wd, .slice A5 m c5, .int .i64 (N + (j : Int))] := Blk.new _ _ _
      have hk6 := hk5.next (one_alloc w5 (.cells #[.int .i64 d, .int .i64 wd, .slice A5 m c5, .int .i64 (N + (j : Int))] 34))
      have hb6 := bnext hb5 (one_alloc w5 (.cells #[.int .i64 d, .int .i64 wd, .slice A5 m c5, .int .i64 (N + (j : Int))] 34))
      have hs56 : (w5.alloc (.cells #[.int .i64 d, .int .i64 wd, .slice A5 m c5, .int .i64 (N + (j : Int))] 34)).heap.size = w5.heap.size + 1 := by simp
      have hws := hb5.size
      have p0 : (w5.alloc (.cells #[.int .i64 d, .int .i64 wd, .slice A5 m c5, .int .i64 (N + (j : Int))] 34)).cell? ⟨w.heap.size, 0, none⟩ = some (.int .i64 d) := hk6.cell 0
      have p1 : (w5.alloc (.cells #[.int .i64 d, .int .i64 wd, .slice A5 m c5, .int .i64 (N + (j : Int))] 34)).cell? ⟨w.heap.size, 1, none⟩ = some (.int .i64 wd) := hk6.cell 1
      have p2 : (w5.alloc (.cells #[.int .i64 d, .int .i64 wd, .slice A5 m c5, .int .i64 (N + (j : Int))] 34)).cell? ⟨w.heap.size, 2, none⟩ = some (.slice A m c) := hk6.cell 2
      have p3 : (w5.alloc (.cells #[.int .i64 d, .int .i64 wd, .slice A5 m c5, .int .i64 (N + (j : Int))] 34)).cell? ⟨w.heap.size, 3, none⟩ = some (.int .i64 N) := hk6.cell 3
      go_wp2_with fail
      obtain ⟨w7, hw7⟩ : ∃ w7, ((w5.alloc (.cells #[.int .i64 d, .int .i64 wd, .slice A5 m c5, .int .i64 (N + (j : Int))] 34)).alloc (.cells #[.int .i64 d, .int .i64 wd, .slice A m c, .int .i64 N] 34)) = w7 := ⟨_, rfl⟩
      have hb67 : Below (w5.heap.size + 1) (w5.alloc (.cells #[.int .i64 d, .int .i64 wd, .slice A5 m c5, .int .i64 (N + (j : Int))] 34)) w7 := by rw [← hw7]; have := one_alloc (w5.alloc (.cells #[.int .i64 d, .int .i64 wd, .slice A5 m c5, .int .i64 (N + (j : Int))] 34)) (.cells #[.int .i64 d, .int .i64 wd, .slice A m c, .int .i64 N] 34); rwa [hs56] at this
      have hb7 : Below w.heap.size w w7 := hb6.trans (hb67.mono (by omega))
      have kA7 : Blk w7 w5.heap.size 34 #[.int .i64 d, .int .i64 wd, .slice A5 m c5, .int .i64 (N + (j : Int))] := hkA.below hb67 (Nat.lt_succ_self _)
      have kB7 : Blk w7 (w5.heap.size + 1) 34 #[.int .i64 d, .int .i64 wd, .slice A m c, .int .i64 N] := by rw [← hw7]; have := Blk.new (w5.alloc (.cells #[.int .i64 d, .int .i64 wd, .slice A5 m c5, .int .i64 (N + (j : Int))] 34)) 34 #[.int .i64 d, .int .i64 wd, .slice A m c, .int .i64 N]; rwa [hs56] at this
      have hIa : IntAt w7 (.slice A5 m c5) (addC C (j : Int) key wd d) := by
        have h1 := hIx.next (by rw [hs56]; exact hb67)
        exact h1
      have hIc : IntAt w7 (.slice A m c) C := hC.next hb7
      rw [hw7]
      clear hw7 hb67 hkA hk6 hIx p0 p1 p2 p3
      go_loopw [10, 33] (fun f i wr => ∃ (k : Nat) (A' : Option Addr) (c' : Nat), k ≤ j ∧ i = .int .i64 (k : Nat) ∧ f = .int .i64 0 ∧ Blk wr w5.heap.size 34 #[.int .i64 d, .int .i64 wd, .slice A5 m c5, .int .i64 (N + (j : Int))] ∧ Blk wr (w5.heap.size + 1) 34 #[.int .i64 d, .int .i64 wd, .slice A' m c', .int .i64 (N + (k : Int))] ∧ IntAt wr (.slice A5 m c5) (addC C (j : Int) key wd d) ∧ IntAt wr (.slice A' m c') (addC C (k : Int) key wd d) ∧ (∀ ad, A' = some ad → ad.block ≠ w5.heap.size + 1) ∧ Below w.heap.size w wr) (fun _ i _ => j - (intOf i).toNat)
      case atStart => exact ⟨0, A, c, by omega, rfl, rfl, kA7, by have h1 := kB7; rw [show N = N + ((0 : Nat) : Int) by omega] at h1; exact h1, hIa, by rw [show ((0 : Nat) : Int) = 0 from rfl, hz.out]; exact hIc, fun ad e => by have := hAlt ad e; omega, hb7⟩
      case round =>
        obtain ⟨k, A', c', hkj, rfl, rfl, kA, kB, hIar, hIbr, hne, hbr⟩ := hrel
        have hltb := kB.lt
        have q0 : wr.cell? ⟨w5.heap.size + 1, 0, none⟩ = some (.int .i64 d) := kB.cell 0
        have q1 : wr.cell? ⟨w5.heap.size + 1, 1, none⟩ = some (.int .i64 wd) := kB.cell 1
        have q2 : wr.cell? ⟨w5.heap.size + 1, 2, none⟩ = some (.slice A' m c') := kB.cell 2
        have q3 : wr.cell? ⟨w5.heap.size + 1, 3, none⟩ = some (.int .i64 (N + (k : Int))) := kB.cell 3
        by_cases hlt : (k : Int) < (j : Int)
        · have e1 := Lib.hid (H1.out k (by omega))
          have hadd := add_anyF d wd A' c' (addC C (k : Int) key wd d) (N + (k : Int)) key hk 1 (by unfold in64; omega) wr (by rw [HM.out]; exact hIbr)
          rw [e1.out, HM.out] at hadd
          have Hadd := Lib.hid hadd
          clear hadd
          go_wp2_with fail
          refine Hadd.out.mono ?_
          rintro e w8 ⟨v, rfl, A6, c6, rfl, hI6, hb8, hfr⟩
          simp only [HM.out] at hI6 ⊢
          have kB8 := kB.next hb8
          have kA8 := kA.next hb8
          have hne6 : ∀ ad, A6 = some ad → ad.block ≠ w5.heap.size + 1 := fun ad e => by have := hfr ad e; omega
          have hne5 : ∀ ad, A5 = some ad → ad.block ≠ w5.heap.size + 1 := fun ad e => by have := hA5 ad e; omega
          have hIa8 := hIar.next hb8
          clear q0 q1 q2 q3
          have q0 : w8.cell? ⟨w5.heap.size + 1, 0, none⟩ = some (.int .i64 d) := kB8.cell 0
          have q1 : w8.cell? ⟨w5.heap.size + 1, 1, none⟩ = some (.int .i64 wd) := kB8.cell 1
          have q2 : w8.cell? ⟨w5.heap.size + 1, 2, none⟩ = some (.slice A' m c') := kB8.cell 2
          have q3 : w8.cell? ⟨w5.heap.size + 1, 3, none⟩ = some (.int .i64 (N + (k : Int))) := kB8.cell 3
          have f0 := kB8.frozen 0
          have f1 := kB8.frozen 1
          have f2 := kB8.frozen 2
          have f3 := kB8.frozen 3
          go_wp2_with fail
          go_roundw
          case rel =>
            refine ⟨k + 1, A6, c6, by omega, by go_num, rfl, ((((kA8.far ⟨w5.heap.size + 1, 0, none⟩ _ (by simp)).far ⟨w5.heap.size + 1, 1, none⟩ _ (by simp)).far ⟨w5.heap.size + 1, 2, none⟩ _ (by simp)).far ⟨w5.heap.size + 1, 3, none⟩ _ (by simp)), ?_, ((((hIa8.far ⟨w5.heap.size + 1, 0, none⟩ _ hne5).far ⟨w5.heap.size + 1, 1, none⟩ _ hne5).far ⟨w5.heap.size + 1, 2, none⟩ _ hne5).far ⟨w5.heap.size + 1, 3, none⟩ _ hne5), ((((hI6.far ⟨w5.heap.size + 1, 0, none⟩ _ hne6).far ⟨w5.heap.size + 1, 1, none⟩ _ hne6).far ⟨w5.heap.size + 1, 2, none⟩ _ hne6).far ⟨w5.heap.size + 1, 3, none⟩ _ hne6), hne6, ((((hbr.trans (hb8.mono hbr.size)).setCell (by show w.heap.size ≤ w5.heap.size + 1; omega) _).setCell (by show w.heap.size ≤ w5.heap.size + 1; omega) _).setCell (by show w.heap.size ≤ w5.heap.size + 1; omega) _).setCell (by show w.heap.size ≤ w5.heap.size + 1; omega) _⟩
            have h1 := (((kB8.set 0 (.int .i64 d)).set 1 (.int .i64 wd)).set 2 (.slice A6 m c6)).set 3 (.int .i64 (N + (k : Int) + 1))
            rw [show N + ((k + 1 : Nat) : Int) = N + (k : Int) + 1 by omega]
            exact h1
          case measure => simp [intOf]; omega
        · have hkl : k = j := by omega
          subst hkl
          have p0 : wr.cell? ⟨w5.heap.size, 0, none⟩ = some (.int .i64 d) := kA.cell 0
          have p1 : wr.cell? ⟨w5.heap.size, 1, none⟩ = some (.int .i64 wd) := kA.cell 1
          have p2 : wr.cell? ⟨w5.heap.size, 2, none⟩ = some (.slice A5 m c5) := kA.cell 2
          have p3 : wr.cell? ⟨w5.heap.size, 3, none⟩ = some (.int .i64 (N + (k : Int))) := kA.cell 3
          go_wp2_with fail
          refine (sameSk_any' d wd A5 m c5 (addC C (k : Int) key wd d) (N + (k : Int)) d wd A' m c' (addC C (k : Int) key wd d) (N + (k : Int)) (HM.out _) (HM.out _) _ (by exact hIar) (by exact hIbr)).mono ?_
          rw [decide_eq_true rfl, decide_eq_true rfl, decide_eq_true rfl, decide_eq_true rfl]
          rintro e w9 ⟨rfl, hb9⟩
          go_wp2_with fail
          go_ret
          exact R1.mk rfl (bnext hbr hb9)
end Go.Proofs.Ytkkadfjcnocopaa
