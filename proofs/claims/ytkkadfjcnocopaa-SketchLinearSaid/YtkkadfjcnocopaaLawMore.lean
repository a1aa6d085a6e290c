/- The walk of the law SketchMore: it returns true. Conditions: the arguments fit their kinds. -/
import Derived.Test.YtkkadfjcnocopaaSkHelp
namespace Go.Proofs.Ytkkadfjcnocopaa
open Go.RowKit

theorem addN_cases (s : Sk) (key : ByteArray) (n : Int) : (addN s key n).2 ≠ 0 ∧ (addN s key n).1 = skZero ∨
    (chkSk s.D s.W s.C s.N = 0 ∧ 0 ≤ n ∧ s.N + n ≤ 1152921504606846976 ∧ addN s key n = (⟨s.D, s.W, addC s.C n key s.W.toNat s.D.toNat, s.N + n⟩, 0)) := by
  unfold addN
  split
  · exact .inl ⟨by decide, rfl⟩
  · rename_i h0
    split
    · exact .inl ⟨by decide, rfl⟩
    · split
      · exact .inl ⟨by decide, rfl⟩
      · exact .inr ⟨by simpa using h0, by omega, by omega, rfl⟩

set_option maxRecDepth 1000000 in
set_option maxHeartbeats 8000000 in
theorem sketchMore_true (w : World) (D W : Int) (A : Option Addr) (c : Nat) (C : List Int) (N : Int) (hC : IntAt w (.slice A C.length c) C) (key : ByteArray) (hk : key.size ≤ maxLen) (other : ByteArray) (ho : other.size ≤ maxLen) (n : Int) (hn : in64 n) :
    Calls Try.prog 6 #[.agg #[.int .i64 D, .int .i64 W, .slice A C.length c, .int .i64 N], .string key, .string other, .int .i64 n] w (R1 (.bool true) (Below w.heap.size w)) := by
  have H1 := Lib.hid (fun (w : World) (h : IntAt w (.slice A C.length c) C) => count_any D W A c C N key hk w h)
  have H2 := Lib.hid (fun (w : World) (h : IntAt w (.slice A C.length c) C) => count_any D W A c C N other ho w h)
  have H3 := Lib.hid (fun (w : World) (h : IntAt w (.slice A C.length c) C) => add_any D W A c C N key hk n hn w h)
  rcases addN_cases ⟨D, W, C, N⟩ key n with ⟨h1, h2⟩ | ⟨h0, hn0, hn1, h4⟩
  · obtain ⟨⟨a, e1⟩, ha⟩ : ∃ x, countN D W C N key = x := ⟨_, rfl⟩
    obtain ⟨⟨b, e2⟩, hb⟩ : ∃ x, countN D W C N other = x := ⟨_, rfl⟩
    obtain ⟨⟨t, e3⟩, ht⟩ : ∃ x, addN ⟨D, W, C, N⟩ key n = x := ⟨_, rfl⟩
    rw [ht] at h1 h2
    simp only [] at h1 h2
    subst h2
    rw [ha, pairV] at H1
    rw [hb, pairV] at H2
    rw [ht] at H3
    have f1 : (e3 != 0) = true := by rw [bne_iff_ne]; exact h1
    clear ha hb ht h1
    have hb1 := one_alloc w (.cells #[.int .i64 D, .int .i64 W, .slice A C.length c, .int .i64 N] 34)
    have hk1 : Blk (w.alloc (.cells #[.int .i64 D, .int .i64 W, .slice A C.length c, .int .i64 N] 34)) w.heap.size 34 #[.int .i64 D, .int .i64 W, .slice A C.length c, .int .i64 N] := Blk.new _ _ _
    go_enter Try.func6, Try.ntmps6
    go_wp2_with fail
    refine (sketches_true _).mono ?_
    rintro e w2 ⟨rfl, hb2'⟩
    have hb2 := bnext hb1 hb2'
    have hk2 := hk1.next hb2'
    have p0 : w2.cell? ⟨w.heap.size, 0, none⟩ = some (.int .i64 D) := hk2.cell 0
    have p1 : w2.cell? ⟨w.heap.size, 1, none⟩ = some (.int .i64 W) := hk2.cell 1
    have p2 : w2.cell? ⟨w.heap.size, 2, none⟩ = some (.slice A C.length c) := hk2.cell 2
    have p3 : w2.cell? ⟨w.heap.size, 3, none⟩ = some (.int .i64 N) := hk2.cell 3
    go_wp2_with fail
    refine (H1.out _ (by exact hC.next hb2)).mono ?_
    rintro e w3 ⟨rfl, hb3'⟩
    have hb3 := bnext hb2 hb3'
    have hk3 := hk2.next hb3'
    clear p0 p1 p2 p3
    have p0 : w3.cell? ⟨w.heap.size, 0, none⟩ = some (.int .i64 D) := hk3.cell 0
    have p1 : w3.cell? ⟨w.heap.size, 1, none⟩ = some (.int .i64 W) := hk3.cell 1
    have p2 : w3.cell? ⟨w.heap.size, 2, none⟩ = some (.slice A C.length c) := hk3.cell 2
    have p3 : w3.cell? ⟨w.heap.size, 3, none⟩ = some (.int .i64 N) := hk3.cell 3
    go_wp2_with fail
    refine (H2.out _ (by exact hC.next hb3)).mono ?_
    rintro e w4 ⟨rfl, hb4'⟩
    have hb4 := bnext hb3 hb4'
    have hk4 := hk3.next hb4'
    clear p0 p1 p2 p3
    have p0 : w4.cell? ⟨w.heap.size, 0, none⟩ = some (.int .i64 D) := hk4.cell 0
    have p1 : w4.cell? ⟨w.heap.size, 1, none⟩ = some (.int .i64 W) := hk4.cell 1
    have p2 : w4.cell? ⟨w.heap.size, 2, none⟩ = some (.slice A C.length c) := hk4.cell 2
    have p3 : w4.cell? ⟨w.heap.size, 3, none⟩ = some (.int .i64 N) := hk4.cell 3
    go_wp2_with fail
    refine (H3.out _ (by exact hC.next hb4)).mono ?_
    rintro e w5 ⟨v, rfl, A5, c5, rfl, hI, hb5'⟩
    have hb5 := bnext hb4 hb5'
    clear p0 p1 p2 p3
    obtain ⟨A0, c0, e0, k1, k2, k3, k4, k5⟩ := hI
    injection e0 with e1' _ e2'
    subst e1' e2'
    go_wp2_with fail
    refine (sameSk_any 0 0 _ _ [] 0 0 0 none 0 [] 0 _ ?k1 (intAt_nil _)).mono ?_
    case k1 => exact ⟨_, _, rfl, k1, k2, k3, k4.next (one_alloc _ _), k5⟩
    rintro e w6 ⟨rfl, hb6⟩
    go_wp2_with fail
    go_ret
    exact R1.mk rfl (bnext hb5 (bnext (one_alloc _ _) hb6))
  · have h0 : chkSk D W C N = 0 := h0
    have h4 : addN ⟨D, W, C, N⟩ key n = (⟨D, W, addC C n key W.toNat D.toNat, N + n⟩, 0) := h4
    have hn1 : N + n ≤ 1152921504606846976 := hn1
    rcases chkSk_cases D W C N with hx | ⟨_, d, wd, rfl, rfl, d1, d2, d3, d4, hl, n0, n1, hrow⟩
    · rw [hx] at h0; exact absurd h0 (by decide)
    rw [Int.toNat_natCast, Int.toNat_natCast] at h4
    have hrow' := addC_ok (s := key) d3 hl hn0 hn1 hrow
    have ea : countN d wd C N key = (leastN C N key wd d, 0) := by unfold countN; rw [if_pos h0, Int.toNat_natCast, Int.toNat_natCast]
    have eb : countN d wd C N other = (leastN C N other wd d, 0) := by unfold countN; rw [if_pos h0, Int.toNat_natCast, Int.toNat_natCast]
    have hok : chkSk d wd (addC C n key wd d) (N + n) = 0 := by
      unfold chkSk
      exact if_pos (show skOk d wd (addC C n key wd d) (N + n) from ⟨⟨by omega, by omega, by omega, by omega⟩, by rw [addC_len, hl, Int.natCast_mul], by omega, hn1, fun k hk => hrow' k (by simpa using hk)⟩)
    have ec : countN d wd (addC C n key wd d) (N + n) key = (leastN C N key wd d + n, 0) := by
      unfold countN; rw [if_pos hok, Int.toNat_natCast, Int.toNat_natCast, least_own d3 hl hn0 hn1 hrow d (Nat.le_refl _)]
    have ed : countN d wd (addC C n key wd d) (N + n) other = (leastN (addC C n key wd d) (N + n) other wd d, 0) := by
      unfold countN; rw [if_pos hok, Int.toNat_natCast, Int.toNat_natCast]
    have hab := least_other other (s := key) d3 hl hn0 hn1 hrow d (Nat.le_refl _)
    have ha0 := least_in (s := key) d3 hl n0 hrow d (Nat.le_refl _)
    have hb0 := least_in (s := other) d3 hl n0 hrow d (Nat.le_refl _)
    obtain ⟨a, ga⟩ : ∃ a, leastN C N key wd d = a := ⟨_, rfl⟩
    obtain ⟨b, gb⟩ : ∃ b, leastN C N other wd d = b := ⟨_, rfl⟩
    obtain ⟨T, gT⟩ : ∃ T, addC C n key wd d = T := ⟨_, rfl⟩
    rw [gT] at h4 ec ed hab
    obtain ⟨q, gq⟩ : ∃ q, leastN T (N + n) other wd d = q := ⟨_, rfl⟩
    rw [ga] at ea ec ha0
    rw [gb] at eb hab hb0
    rw [gq] at ed hab
    have H4 := Lib.hid (fun (w : World) (A : Option Addr) (c : Nat) (h : IntAt w (.slice A T.length c) T) => count_any d wd A c T (N + n) key hk w h)
    have H5 := Lib.hid (fun (w : World) (A : Option Addr) (c : Nat) (h : IntAt w (.slice A T.length c) T) => count_any d wd A c T (N + n) other ho w h)
    rw [ea, pairV] at H1
    rw [eb, pairV] at H2
    rw [h4] at H3
    rw [ec, pairV] at H4
    rw [ed, pairV] at H5
    have ew1 : IntKind.i64.wrap (a + n) = a + n := IntWalk.i64_in _ (by omega)
    have ew2 : IntKind.i64.wrap (b + n) = b + n := IntWalk.i64_in _ (by omega)
    obtain ⟨q1, q2⟩ := hab
    clear ga gb gT gq ea eb ec ed h4 h0 hl hrow hrow' hok ha0 hb0
    have hb1 := one_alloc w (.cells #[.int .i64 d, .int .i64 wd, .slice A C.length c, .int .i64 N] 34)
    have hk1 : Blk (w.alloc (.cells #[.int .i64 d, .int .i64 wd, .slice A C.length c, .int .i64 N] 34)) w.heap.size 34 #[.int .i64 d, .int .i64 wd, .slice A C.length c, .int .i64 N] := Blk.new _ _ _
    go_enter Try.func6, Try.ntmps6
    go_wp2_with fail
    refine (sketches_true _).mono ?_
    rintro e w2 ⟨rfl, hb2'⟩
    have hb2 := bnext hb1 hb2'
    have hk2 := hk1.next hb2'
    have p0 : w2.cell? ⟨w.heap.size, 0, none⟩ = some (.int .i64 d) := hk2.cell 0
    have p1 : w2.cell? ⟨w.heap.size, 1, none⟩ = some (.int .i64 wd) := hk2.cell 1
    have p2 : w2.cell? ⟨w.heap.size, 2, none⟩ = some (.slice A C.length c) := hk2.cell 2
    have p3 : w2.cell? ⟨w.heap.size, 3, none⟩ = some (.int .i64 N) := hk2.cell 3
    go_wp2_with fail
    refine (H1.out _ (by exact hC.next hb2)).mono ?_
    rintro e w3 ⟨rfl, hb3'⟩
    have hb3 := bnext hb2 hb3'
    have hk3 := hk2.next hb3'
    clear p0 p1 p2 p3
    have p0 : w3.cell? ⟨w.heap.size, 0, none⟩ = some (.int .i64 d) := hk3.cell 0
    have p1 : w3.cell? ⟨w.heap.size, 1, none⟩ = some (.int .i64 wd) := hk3.cell 1
    have p2 : w3.cell? ⟨w.heap.size, 2, none⟩ = some (.slice A C.length c) := hk3.cell 2
    have p3 : w3.cell? ⟨w.heap.size, 3, none⟩ = some (.int .i64 N) := hk3.cell 3
    go_wp2_with fail
    refine (H2.out _ (by exact hC.next hb3)).mono ?_
    rintro e w4 ⟨rfl, hb4'⟩
    have hb4 := bnext hb3 hb4'
    have hk4 := hk3.next hb4'
    clear p0 p1 p2 p3
    have p0 : w4.cell? ⟨w.heap.size, 0, none⟩ = some (.int .i64 d) := hk4.cell 0
    have p1 : w4.cell? ⟨w.heap.size, 1, none⟩ = some (.int .i64 wd) := hk4.cell 1
    have p2 : w4.cell? ⟨w.heap.size, 2, none⟩ = some (.slice A C.length c) := hk4.cell 2
    have p3 : w4.cell? ⟨w.heap.size, 3, none⟩ = some (.int .i64 N) := hk4.cell 3
    go_wp2_with fail
    refine (H3.out _ (by exact hC.next hb4)).mono ?_
    rintro e w5 ⟨v, rfl, A5, c5, rfl, hI, hb5'⟩
    have hb5 := bnext hb4 hb5'
    clear p0 p1 p2 p3
    have hb6 := bnext hb5 (one_alloc w5 (.cells #[.int .i64 d, .int .i64 wd, .slice A5 T.length c5, .int .i64 (N + n)] 34))
    have hk6 : Blk (w5.alloc (.cells #[.int .i64 d, .int .i64 wd, .slice A5 T.length c5, .int .i64 (N + n)] 34)) w5.heap.size 34 #[.int .i64 d, .int .i64 wd, .slice A5 T.length c5, .int .i64 (N + n)] := Blk.new _ _ _
    have hI6 := hI.next (one_alloc w5 (.cells #[.int .i64 d, .int .i64 wd, .slice A5 T.length c5, .int .i64 (N + n)] 34))
    have HI6 := Lib.hid hI6
    have HI := Lib.hid hI
    clear hI hI6
    go_wp2_with fail
    refine (H4.out _ _ _ (by exact HI6.out)).mono ?_
    rintro e w7 ⟨rfl, hb7'⟩
    have hb7 := bnext hb6 hb7'
    have hk7 := hk6.next hb7'
    have p0 : w7.cell? ⟨w5.heap.size, 0, none⟩ = some (.int .i64 d) := hk7.cell 0
    have p1 : w7.cell? ⟨w5.heap.size, 1, none⟩ = some (.int .i64 wd) := hk7.cell 1
    have p2 : w7.cell? ⟨w5.heap.size, 2, none⟩ = some (.slice A5 T.length c5) := hk7.cell 2
    have p3 : w7.cell? ⟨w5.heap.size, 3, none⟩ = some (.int .i64 (N + n)) := hk7.cell 3
    go_wp2_with fail
    refine (H5.out _ _ _ (by exact HI6.out.next hb7')).mono ?_
    rintro e w8 ⟨rfl, hb8'⟩
    have hb8 := bnext hb7 hb8'
    clear p0 p1 p2 p3
    go_wp2_with fail
    refine (good_any _ 4 _ [0, 0, 0, 0] rfl (by decide) _ (Has.fresh w8 #[.int .i64 0, .int .i64 0, .int .i64 0, .int .i64 0] _)).mono ?_
    rintro e w9 ⟨rfl, n9, rfl⟩
    go_wp2_with fail
    go_ret
    exact R1.mk (by simp) (below_drewN (bnext hb8 (one_alloc _ _)) _)
end Go.Proofs.Ytkkadfjcnocopaa
