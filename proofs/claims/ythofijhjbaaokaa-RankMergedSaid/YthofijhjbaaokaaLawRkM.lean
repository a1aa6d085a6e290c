/- The walk of the law RankMerged: it returns true. Conditions: the arguments fit their kinds. -/
import Derived.Test.YthofijhjbaaokaaRkMg
import Derived.Test.YthofijhjbaaokaaRkUp
import Derived.Test.YthofijhjbaaokaaWeight
import Derived.Test.YthofijhjbaaokaaGood
import Derived.Lib.MinMax
namespace Go.Proofs.Ythofijhjbaaokaa
open Go.RowKit

theorem good2_anyM (E F : Int) (_ : in64 E) (_ : in64 F) (w : World) (w0 : World) (hw : w = w0.alloc (.cells #[.int .i64 E, .int .i64 F] 29)) :
    Calls Try.prog 14 #[.slice (some ⟨w0.heap.size, 0, none⟩) 2 2] w (R1 (.bool (decide (E = 0) && decide (F = 0))) (Below w.heap.size w)) := by
  subst hw
  refine (good_any _ 2 _ [E, F] rfl (by simp) _ (Has.fresh w0 #[.int .i64 E, .int .i64 F] _)).mono ?_
  rintro e w1 ⟨rfl, hd⟩
  refine ⟨?_, drawn_below hd⟩
  simp [List.all]
  constructor <;> rfl
theorem rkG_prods {K : Int} {T : List Int} {L : List (List Int)} {N S : Int} {l : List Int} (h : RkG K T L N S l) {q : Nat} (hq : L.length - 1 = q) : 0 ≤ 2 * K * S ∧ 2 * K * S ≤ N * (q : Int) ∧ N * (q : Int) ≤ 25000000000000 := by
  have h1 := h.levels
  rw [hq] at h1
  have h2 : N * (q : Int) ≤ 1000000000000 * 25 := Int.mul_le_mul (by have := h.nle.2; omega) (by have := h.ln; omega) (by omega) (by omega)
  exact ⟨Int.mul_nonneg (by have := h.k2; omega) h.slack.1, h1, by omega⟩
theorem rkOwn_val {w : World} {b : Nat} {K : Int} {T : List Int} {L : List (List Int)} {N S : Int} {A : Option Addr} {c : Nat} {B : Option Addr} {e : Nat} {vs : List Value} (h : RkO w b (.slice A T.length c) T B e L vs) : RkVal w K T L N S (.agg #[.int .i64 K, .slice A T.length c, .slice B L.length e, .int .i64 N, .int .i64 S]) := h.val

set_option maxRecDepth 1000000 in
set_option maxHeartbeats 16000000 in
theorem rankMerged_true (w : World) (K : Int) (_ : -9223372036854775808 ≤ K ∧ K ≤ 9223372036854775807) (A : Option Addr) (c : Nat) (l : List Int) (hI : ∀ x ∈ l, in64 x) (lc : l.length ≤ c) (_ : c ≤ maxLen) (hA : A = none → c = 0) (has : Has w w.heap.size A (i64s l)) (hs : l.length ≤ 17592186043904)
    (A2 : Option Addr) (c2 : Nat) (k : List Int) (hI2 : ∀ x ∈ k, in64 x) (lc2 : k.length ≤ c2) (_ : c2 ≤ maxLen) (hA2 : A2 = none → c2 = 0) (has2 : Has w w.heap.size A2 (i64s k)) (hs2 : k.length ≤ 17592186043904) (x : Int) (_ : -9223372036854775808 ≤ x ∧ x ≤ 9223372036854775807) :
    Calls Try.prog 3 #[.int .i64 K, .slice A l.length c, .slice A2 k.length c2, .int .i64 x] w (R1 (.bool true) (Below w.heap.size w)) := by
  have HR := Lib.hid (fun (w' : World) (hb : Below w.heap.size w w') => ranked_any K A l.length c l rfl (by omega) (fun x hx => hI x hx) w' (has.next hb))
  have HR2 := Lib.hid (fun (w' : World) (hb : Below w.heap.size w w') => ranked_any K A2 k.length c2 k rfl (by omega) (fun x hx => hI2 x hx) w' (has2.next hb))
  have HC := Lib.hid (fun (hn : l.length ≤ 8796093022207) (hm : k.length ≤ 8796093022207) (w' : World) (hb : Below w.heap.size w w') ad hbl v0 v1 => concatI_any A l.length c l A2 k.length c2 k rfl rfl hn hm hA lc hA2 lc2 w' (has.next hb) (has2.next hb) ad hbl v0 v1)
  obtain ⟨n, hn⟩ : ∃ n, l.length = n := ⟨_, rfl⟩
  obtain ⟨m, hm⟩ : ∃ m, k.length = m := ⟨_, rfl⟩
  have Hn := Lib.hid hn
  have Hm := Lib.hid hm
  rw [hn] at HR HC hs ⊢
  rw [hm] at HR2 HC hs2 ⊢
  have hw : IntKind.i64.wrap ((n : Int) + (m : Int)) = (n : Int) + (m : Int) := IntWalk.i64_in _ (by omega)
  clear hn hm hI hI2 lc hA has lc2 hA2 has2
  go_enter Try.func3, Try.ntmps3
  go_wp2_with fail
  refine (ranks_true _).mono ?_
  rintro e9 w1 ⟨rfl, hb1⟩
  go_wp2_with fail
  refine (HR.out _ hb1).mono ?_
  rintro e9 w2 ⟨v, rfl, hres, hb2⟩
  have hb02 := bnext hb1 hb2
  rcases hres with ⟨T, L, N, S, z, hG, h20, rfl, A3, c3, B3, e3, vs3, rfl, hO⟩ | ⟨rfl, hbad⟩
  · have hb3' : Below w2.heap.size w2 (w2.alloc (.cells #[.int .i64 K, .slice A3 T.length c3, .slice B3 L.length e3, .int .i64 N, .int .i64 S] 26)) := one_allocR _ _
    have hk3 : Blk (w2.alloc (.cells #[.int .i64 K, .slice A3 T.length c3, .slice B3 L.length e3, .int .i64 N, .int .i64 S] 26)) w2.heap.size 26 #[.int .i64 K, .slice A3 T.length c3, .slice B3 L.length e3, .int .i64 N, .int .i64 S] := Blk.new _ _ _
    have hb03 := bnext hb02 hb3'
    have HO3 := Lib.hid (hO.next hb3')
    have HG := Lib.hid hG
    have H20 := Lib.hid h20
    have HRb := Lib.hid (HR2.out _ hb03)
    clear hG hO h20 hb1 hb2 hb02 hb3'
    go_wp2_with fail
    obtain ⟨W3, hW3⟩ : ∃ W3, w2.alloc (.cells #[.int .i64 K, .slice A3 T.length c3, .slice B3 L.length e3, .int .i64 N, .int .i64 S] 26) = W3 := ⟨_, rfl⟩
    rw [hW3] at hk3 hb03 HO3 HRb ⊢
    clear hW3
    refine HRb.out.mono ?_
    rintro e9 w4 ⟨v, rfl, hres, hb4⟩
    have hb04 := bnext hb03 hb4
    rcases hres with ⟨U, M, N', S', z', hG', h20', rfl, A4, c4, B4, e4, vs4, rfl, hO'⟩ | ⟨rfl, hbad⟩
    · have hb5' : Below w4.heap.size w4 (w4.alloc (.cells #[.int .i64 K, .slice A4 U.length c4, .slice B4 M.length e4, .int .i64 N', .int .i64 S'] 26)) := one_allocR _ _
      have hk5b : Blk (w4.alloc (.cells #[.int .i64 K, .slice A4 U.length c4, .slice B4 M.length e4, .int .i64 N', .int .i64 S'] 26)) w4.heap.size 26 #[.int .i64 K, .slice A4 U.length c4, .slice B4 M.length e4, .int .i64 N', .int .i64 S'] := Blk.new _ _ _
      have hk5 := (hk3.next hb4).next hb5'
      have hb05 := bnext hb04 hb5'
      have HMg := Lib.hid (rMerge_any K T L N S l HG.out H20.out U M N' S' k hG' h20' _ _ _ (rkOwn_val ((HO3.out.next hb4).next hb5')) (rkOwn_val (hO'.next hb5')))
      have hsum : Hid (n ≤ 8796093022207 ∧ m ≤ 8796093022207) := by
        have h1 := HG.out.total H20.out
        have h2 := hG'.total h20'
        have h3 := HG.out.k64
        rw [Hn.out] at h1
        rw [Hm.out] at h2
        exact Lib.hid (by omega)
      have HG' := Lib.hid hG'
      clear hb4 hb5' hk3 hG' hO' h20' HO3
      have y0 : (w4.alloc (.cells #[.int .i64 K, .slice A4 U.length c4, .slice B4 M.length e4, .int .i64 N', .int .i64 S'] 26)).cell? ⟨w2.heap.size, 0, none⟩ = some (.int .i64 K) := hk5.cell 0
      have y1 : (w4.alloc (.cells #[.int .i64 K, .slice A4 U.length c4, .slice B4 M.length e4, .int .i64 N', .int .i64 S'] 26)).cell? ⟨w2.heap.size, 1, none⟩ = some (.slice A3 T.length c3) := hk5.cell 1
      have y2 : (w4.alloc (.cells #[.int .i64 K, .slice A4 U.length c4, .slice B4 M.length e4, .int .i64 N', .int .i64 S'] 26)).cell? ⟨w2.heap.size, 2, none⟩ = some (.slice B3 L.length e3) := hk5.cell 2
      have y3 : (w4.alloc (.cells #[.int .i64 K, .slice A4 U.length c4, .slice B4 M.length e4, .int .i64 N', .int .i64 S'] 26)).cell? ⟨w2.heap.size, 3, none⟩ = some (.int .i64 N) := hk5.cell 3
      have y4 : (w4.alloc (.cells #[.int .i64 K, .slice A4 U.length c4, .slice B4 M.length e4, .int .i64 N', .int .i64 S'] 26)).cell? ⟨w2.heap.size, 4, none⟩ = some (.int .i64 S) := hk5.cell 4
      go_upto_region 7 with fail
      obtain ⟨W5, hW5⟩ : ∃ W5, w4.alloc (.cells #[.int .i64 K, .slice A4 U.length c4, .slice B4 M.length e4, .int .i64 N', .int .i64 S'] 26) = W5 := ⟨_, rfl⟩
      rw [hW5] at hk5 hk5b hb05 HMg y0 y1 y2 y3 y4 ⊢
      clear hW5
      have x0 : W5.cell? ⟨w4.heap.size, 0, none⟩ = some (.int .i64 K) := hk5b.cell 0
      have x1 : W5.cell? ⟨w4.heap.size, 1, none⟩ = some (.slice A4 U.length c4) := hk5b.cell 1
      have x2 : W5.cell? ⟨w4.heap.size, 2, none⟩ = some (.slice B4 M.length e4) := hk5b.cell 2
      have x3 : W5.cell? ⟨w4.heap.size, 3, none⟩ = some (.int .i64 N') := hk5b.cell 3
      have x4 : W5.cell? ⟨w4.heap.size, 4, none⟩ = some (.int .i64 S') := hk5b.cell 4
      go_wp2_with fail
      refine HMg.out.mono ?_
      rintro e9 w6 ⟨v, rfl, hres, hb6⟩
      have hb06 := bnext hb05 hb6
      clear x0 x1 x2 x3 x4 y0 y1 y2 y3 y4 hk5 hk5b HMg
      rcases hres with ⟨T6, L6, N6, S6, z6, hG6, h26, rfl, A6, c6, B6, e6, vs6, rfl, hO6⟩ | ⟨rfl, hmany⟩
      · have hb7' : Below w6.heap.size w6 (w6.alloc (.cells #[.int .i64 K, .slice A6 T6.length c6, .slice B6 L6.length e6, .int .i64 N6, .int .i64 S6] 26)) := one_allocR _ _
        have hk7 : Blk (w6.alloc (.cells #[.int .i64 K, .slice A6 T6.length c6, .slice B6 L6.length e6, .int .i64 N6, .int .i64 S6] 26)) w6.heap.size 26 #[.int .i64 K, .slice A6 T6.length c6, .slice B6 L6.length e6, .int .i64 N6, .int .i64 S6] := Blk.new _ _ _
        have hb07 := bnext hb06 hb7'
        obtain ⟨i1, i2, i3, i4, i5⟩ := (hO6.next hb7').inp
        have hK64 : in64 K := ⟨by have := hG6.k2; omega, by have := hG6.k64; omega⟩
        have HW := Lib.hid (Weight_any K hK64 A6 c6 T6 B6 e6 L6 vs6 N6 S6 x i2 i3 _ i1 i4 i5 (by omega))
        have eW : weightN K T6 L6 N6 S6 x = (wsum T6 L6 x L6.length, 0) := by unfold weightN; rw [if_pos (hG6.chk h26)]
        rw [eW] at HW
        have hNn : N6 = (n : Int) + (m : Int) := by rw [hG6.nN, List.length_append, Hn.out, Hm.out]; omega
        obtain ⟨p1, p2⟩ := hG6.weight h26 x
        have hcl := cnt_le (l ++ k) x
        rw [List.length_append, Hn.out, Hm.out] at hcl
        obtain ⟨q, hq⟩ : ∃ q, cnt (l ++ k) x = q := ⟨_, rfl⟩
        obtain ⟨y, hy⟩ : ∃ y, wsum T6 L6 x L6.length = y := ⟨_, rfl⟩
        rw [hq, hy] at p1 p2
        rw [hq] at hcl
        rw [hy] at HW
        have hq2 := Lib.hid hq
        have hSl := hG6.slack
        have p0 : -1152921504606846976 ≤ y := by omega
        have e1 : IntKind.i64.wrap (y + S6) = y + S6 := IntWalk.i64_in _ (by omega)
        obtain ⟨u, hu⟩ : ∃ u, L6.length = u := ⟨_, rfl⟩
        obtain ⟨hp1, hp2, hp3⟩ := rkG_prods hG6 (q := u - 1) (by rw [hu])
        have hk2 := hG6.k2
        have hk64 := hG6.k64
        have hu20 : u ≤ 20 := by omega
        have e0 : IntKind.i64.wrap (2 * K) = 2 * K := IntWalk.i64_in _ (by omega)
        rw [hu] at HW hk7 hb07 ⊢
        subst hNn
        have HH := Lib.hid (show ∃ r d, max ((u : Int) - 1) 0 = r ∧ IntKind.i64.wrap ((u : Int) - 1) = d ∧ max d 0 = r ∧ IntKind.i64.wrap (2 * K * S6) = 2 * K * S6 ∧ IntKind.i64.wrap (((n : Int) + (m : Int)) * r) = ((n : Int) + (m : Int)) * r ∧ 2 * K * S6 ≤ ((n : Int) + (m : Int)) * r from by
          refine ⟨((u - 1 : Nat) : Int), (u : Int) - 1, by omega, IntWalk.i64_in _ (by omega), by omega, IntWalk.i64_in _ (by omega), IntWalk.i64_in _ (by omega), hp2⟩)
        obtain ⟨r, d, hr1, hr2, hr3, hr4, hr5, hr6⟩ := HH.out
        clear hr1 HH hp1 hp2 hp3 hG6 hO6 h26 i1 i2 i3 i4 i5 eW hq hy hu hK64 hb6 hb7' HG HG' H20
        simp only [W2] at HW
        go_upto_region 10 with fail
        obtain ⟨W7, hW7⟩ : ∃ W7, w6.alloc (.cells #[.int .i64 K, .slice A6 T6.length c6, .slice B6 u e6, .int .i64 ((n : Int) + (m : Int)), .int .i64 S6] 26) = W7 := ⟨_, rfl⟩
        rw [hW7] at hk7 hb07 HW ⊢
        clear hW7
        have y0 : W7.cell? ⟨w6.heap.size, 0, none⟩ = some (.int .i64 K) := hk7.cell 0
        have y1 : W7.cell? ⟨w6.heap.size, 1, none⟩ = some (.slice A6 T6.length c6) := hk7.cell 1
        have y2 : W7.cell? ⟨w6.heap.size, 2, none⟩ = some (.slice B6 u e6) := hk7.cell 2
        have y3 : W7.cell? ⟨w6.heap.size, 3, none⟩ = some (.int .i64 ((n : Int) + (m : Int))) := hk7.cell 3
        have y4 : W7.cell? ⟨w6.heap.size, 4, none⟩ = some (.int .i64 S6) := hk7.cell 4
        go_wp2_with fail
        refine HW.out.mono ?_
        rintro e9 w8 ⟨rfl, hb8⟩
        have hb08 := bnext hb07 hb8
        have hk8 := hk7.next hb8
        have hb9' : Below w8.heap.size w8 (w8.alloc (.cells #[Value.slice A n c, .slice A2 m c2] 22)) := one_allocR _ _
        have hk9 : Blk (w8.alloc (.cells #[Value.slice A n c, .slice A2 m c2] 22)) w8.heap.size 22 #[Value.slice A n c, .slice A2 m c2] := Blk.new _ _ _
        have hb09 := bnext hb08 hb9'
        have HC9 := Lib.hid (HC.out hsum.out.1 hsum.out.2 _ hb09 ⟨w8.heap.size, 0, none⟩ hk9.lt (hk9.cell 0) (hk9.cell 1))
        have hk9b := hk8.next hb9'
        clear y0 y1 y2 y3 y4 hk7 hk8 hb9' hb8 hk9
        go_wp2_with fail
        refine HC9.out.mono ?_
        rintro e9 w10 ⟨v, rfl, A10, c10, rfl, hown10, hb10⟩
        have hb010 := bnext hb09 hb10
        have hk10 := hk9b.next hb10
        have HU := Lib.hid (upToK_any A10 (n + m) c10 (l ++ k) (by rw [List.length_append, Hn.out, Hm.out]) (by omega) x w10 (Has.of_own hown10))
        rw [hq2.out] at HU
        have hnm : ((n + m : Nat) : Int) = (n : Int) + (m : Int) := by omega
        clear hown10 hb10 hk9b
        go_wp2_with fail
        refine HU.out.mono ?_
        rintro e9 w11 ⟨rfl, hw11⟩
        rw [hw11]
        clear hw11
        have hb12' : Below w10.heap.size w10 (w10.alloc (.cells #[Value.int .i64 0, .int .i64 0] 29)) := one_allocR _ _
        have hk12 := hk10.next hb12'
        have hb012 := bnext hb010 hb12'
        have HGd := Lib.hid (good2_anyM 0 0 ⟨by decide, by decide⟩ ⟨by decide, by decide⟩ (w10.alloc (.cells #[Value.int .i64 0, .int .i64 0] 29)) w10 rfl)
        clear hb12' hk10
        go_wp2_with fail
        refine HGd.out.mono ?_
        rintro e9 w13 ⟨rfl, hb13⟩
        have hk13 := hk12.next hb13
        have hb013 := bnext hb012 hb13
        have y2 : w13.cell? ⟨w6.heap.size, 2, none⟩ = some (.slice B6 u e6) := hk13.cell 2
        have y3 : w13.cell? ⟨w6.heap.size, 3, none⟩ = some (.int .i64 ((n : Int) + (m : Int))) := hk13.cell 3
        have y4 : w13.cell? ⟨w6.heap.size, 4, none⟩ = some (.int .i64 S6) := hk13.cell 4
        clear hk12 hk13 hb13
        go_wp2_with fail
        go_ret
        exact R1.mk (by simp) hb013
      · simp only [zeroR]
        rw [List.length_append, Hn.out, Hm.out] at hmany
        have h3 : (1000 : Int) < (n : Int) + (m : Int) := by omega
        go_wp2_with fail
        go_ret
        exact R1.mk (by simp) (hb06.alloc hb06.size _)
    · simp only [zeroR]
      rw [Hm.out] at hbad
      have hlast : K < 2 ∨ (¬ K < 2 ∧ 64 < K) ∨ (¬ K < 2 ∧ ¬ 64 < K ∧ (1000 : Int) < (n : Int) + (m : Int)) := by omega
      clear hbad
      rcases hlast with h1 | ⟨h1, h2⟩ | ⟨h1, h2, h3⟩
      · go_wp2_with fail
        go_ret
        exact R1.mk (by simp) (hb04.alloc hb04.size _)
      · go_wp2_with fail
        go_ret
        exact R1.mk (by simp) (hb04.alloc hb04.size _)
      · go_wp2_with fail
        go_ret
        exact R1.mk (by simp) (hb04.alloc hb04.size _)
  · rw [Hn.out] at hbad
    have hb3' : Below w2.heap.size w2 (w2.alloc (.cells #[.int .i64 0, .slice none 0 0, .slice none 0 0, .int .i64 0, .int .i64 0] 26)) := one_allocR _ _
    have hb03 := bnext hb02 hb3'
    have HRb := Lib.hid (HR2.out _ hb03)
    simp only [zeroR]
    go_wp2_with fail
    refine HRb.out.mono ?_
    rintro e9 w4 ⟨v, rfl, hres, hb4⟩
    have hb04 := bnext hb03 hb4
    clear hb1 hb2 hb02 hb3' hb03 HRb hb4
    rcases hres with ⟨U, M, N', S', z', hG', h20', rfl, A4, c4, B4, e4, vs4, rfl, hO'⟩ | ⟨rfl, _⟩
    · clear hG' hO' h20'
      have hlast : K < 2 ∨ (¬ K < 2 ∧ 64 < K) ∨ (¬ K < 2 ∧ ¬ 64 < K ∧ (1000 : Int) < (n : Int) + (m : Int)) := by omega
      clear hbad
      rcases hlast with h1 | ⟨h1, h2⟩ | ⟨h1, h2, h3⟩
      · go_wp2_with fail
        go_ret
        exact R1.mk (by simp) (hb04.alloc hb04.size _)
      · go_wp2_with fail
        go_ret
        exact R1.mk (by simp) (hb04.alloc hb04.size _)
      · go_wp2_with fail
        go_ret
        exact R1.mk (by simp) (hb04.alloc hb04.size _)
    · simp only [zeroR]
      have hlast : K < 2 ∨ (¬ K < 2 ∧ 64 < K) ∨ (¬ K < 2 ∧ ¬ 64 < K ∧ (1000 : Int) < (n : Int) + (m : Int)) := by omega
      clear hbad
      rcases hlast with h1 | ⟨h1, h2⟩ | ⟨h1, h2, h3⟩
      · go_wp2_with fail
        go_ret
        exact R1.mk (by simp) (hb04.alloc hb04.size _)
      · go_wp2_with fail
        go_ret
        exact R1.mk (by simp) (hb04.alloc hb04.size _)
      · go_wp2_with fail
        go_ret
        exact R1.mk (by simp) (hb04.alloc hb04.size _)
end Go.Proofs.Ythofijhjbaaokaa
