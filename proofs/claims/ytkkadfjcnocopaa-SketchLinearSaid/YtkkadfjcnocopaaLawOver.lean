/- The walk of the law SketchOver: it returns true. Conditions: the arguments fit their kinds. -/
import Derived.Test.YtkkadfjcnocopaaSkAll
namespace Go.Proofs.Ytkkadfjcnocopaa
open Go.RowKit

set_option maxRecDepth 1000000 in
set_option maxHeartbeats 1000000 in
theorem odd_any (D W : Int) (w : World) : Calls Try.prog 24 #[.int .i64 D, .int .i64 W] w (R1 (.bool (!decide (szOk D W))) (fun w' => w' = w)) := by
  by_cases h : szOk D W
  · have e := Lib.hid (decide_eq_true h)
    obtain ⟨h1, h2, h3, h4⟩ := h
    have g1 : ¬ D < 1 := by omega
    have g2 : ¬ 8 < D := by omega
    have g3 : ¬ W < 1 := by omega
    have g4 : ¬ 200 < W := by omega
    go_enter Try.func24, Try.ntmps24
    go_wp2_with fail
    go_ret
    exact R1.mk (bool_eq (by rw [e.out]; simp; try omega)) rfl
  · have e := Lib.hid (decide_eq_false h)
    unfold szOk at h
    go_enter Try.func24, Try.ntmps24
    go_wp2_with fail
    all_goals try (exfalso; omega)
    all_goals
      go_ret
      exact R1.mk (bool_eq (by rw [e.out]; simp; try omega)) rfl

set_option maxRecDepth 1000000 in
set_option maxHeartbeats 8000000 in
theorem sketchOver_true (w : World) (D : Int) (_ : -9223372036854775808 ≤ D ∧ D ≤ 9223372036854775807) (W : Int) (_ : -9223372036854775808 ≤ W ∧ W ≤ 9223372036854775807) (A : Option Addr) (c : Nat) (l : List ByteArray) (hs : ∀ s ∈ l, s.size ≤ maxLen) (_ : l.length ≤ c) (_ : c ≤ maxLen) (_ : A = none → c = 0) (h : Has w w.heap.size A (strCs l)) (hr : l.length * 16 ≤ 140737488351232) (key : ByteArray) (hk : key.size ≤ maxLen) :
    Calls Try.prog 4 #[.int .i64 D, .int .i64 W, .slice A l.length c, .string key] w (R1 (.bool true) (Below w.heap.size w)) := by
  obtain ⟨n, hn⟩ : ∃ n, l.length = n := ⟨_, rfl⟩
  have hnb : n ≤ 17592186044416 := by omega
  have Hn := Lib.hid hn
  rw [hn]
  clear hn hr
  by_cases hz : szOk D W
  · obtain ⟨h1, h2, h3, h4⟩ := hz
    obtain ⟨d, rfl⟩ := Int.eq_ofNat_of_zero_le (show 0 ≤ D by omega)
    obtain ⟨wd, rfl⟩ := Int.eq_ofNat_of_zero_le (show 0 ≤ W by omega)
    have d1 : 1 ≤ d := by omega
    have d2 : d ≤ 8 := by omega
    have d3 : 1 ≤ wd := by omega
    have d4 : wd ≤ 200 := by omega
    obtain ⟨T, hT⟩ : ∃ T, allC l wd d n = T := ⟨_, rfl⟩
    have hchk := allC_chk (l := l) (k := n) d1 d2 d3 d4 hnb
    have hlow := times_least (l := l) (key := key) (d := d) d3 hnb d (Nat.le_refl _)
    have hup := (least_in (N := (n : Int)) (s := key) d3 (allC_len l wd d n) (by omega) (allC_ok (l := l) (d := d) d3 n hnb) d (Nat.le_refl _)).2
    have htl := allC_len l wd d n
    have hsk : ∀ w : World, Has w w.heap.size A (strCs l) → Calls Try.prog 23 #[.int .i64 d, .int .i64 wd, .slice A n c] w (RV (SbP ⟨d, wd, allC l wd d n, n⟩ true w)) := fun w h => sketchedGood_any d wd d1 d2 d3 d4 A n c l hs Hn.out hnb w h
    rw [hT] at hchk hlow hup htl hsk
    obtain ⟨m, hm⟩ : ∃ m, T.length = m := ⟨_, rfl⟩
    have ec : countN d wd T (n : Int) key = (leastN T (n : Int) key wd d, 0) := by unfold countN; rw [if_pos hchk, Int.toNat_natCast, Int.toNat_natCast]
    obtain ⟨q, hq⟩ : ∃ q, leastN T (n : Int) key wd d = q := ⟨_, rfl⟩
    obtain ⟨t, ht⟩ : ∃ t, timesN l key n = t := ⟨_, rfl⟩
    rw [hq] at ec hlow hup
    rw [ht] at hlow
    have H1 := Lib.hid hsk
    have H2 := Lib.hid (fun (w : World) (A : Option Addr) (c : Nat) (h : IntAt w (.slice A T.length c) T) => count_any d wd A c T (n : Int) key hk w h)
    have H3 := Lib.hid (fun (w : World) (A : Option Addr) (c : Nat) (h : IntAt w (.slice A T.length c) T) => scheck_any d wd A c T (n : Int) w h)
    have H4 := Lib.hid (fun (w : World) (h : Has w w.heap.size A (strCs l)) => times_any A n c l key Hn.out hnb w h)
    have ht0 := (times_le l key n).1
    rw [ec, pairV] at H2
    rw [hchk] at H3
    rw [ht] at H4 ht0
    rw [hm] at H2 H3
    have Hm := Lib.hid hm
    clear hsk ec hchk hq ht hT hm htl h1 h2 h3 h4
    go_enter Try.func4, Try.ntmps4
    go_wp2_with fail
    refine (sketches_true _).mono ?_
    rintro e w2 ⟨rfl, hb2⟩
    go_wp2_with fail
    refine (H1.out _ (by exact h.next hb2)).mono ?_
    rintro e w3 ⟨v, rfl, A3, c3, rfl, hI, hb3'⟩
    have hb3 := bnext hb2 hb3'
    simp only [Hm.out] at hI ⊢
    have hb4 := bnext hb3 (one_alloc w3 (.cells #[.int .i64 d, .int .i64 wd, .slice A3 m c3, .int .i64 (n : Int)] 34))
    have hk4 : Blk (w3.alloc (.cells #[.int .i64 d, .int .i64 wd, .slice A3 m c3, .int .i64 (n : Int)] 34)) w3.heap.size 34 #[.int .i64 d, .int .i64 wd, .slice A3 m c3, .int .i64 (n : Int)] := Blk.new _ _ _
    have hI4 := hI.next (one_alloc w3 (.cells #[.int .i64 d, .int .i64 wd, .slice A3 m c3, .int .i64 (n : Int)] 34))
    go_wp2_with fail
    refine (H2.out _ _ _ (by exact hI4)).mono ?_
    rintro e w5 ⟨rfl, hb5'⟩
    have hb5 := bnext hb4 hb5'
    have hk5 := hk4.next hb5'
    have hI5 := hI4.next hb5'
    have p0 : w5.cell? ⟨w3.heap.size, 0, none⟩ = some (.int .i64 d) := hk5.cell 0
    have p1 : w5.cell? ⟨w3.heap.size, 1, none⟩ = some (.int .i64 wd) := hk5.cell 1
    have p2 : w5.cell? ⟨w3.heap.size, 2, none⟩ = some (.slice A3 m c3) := hk5.cell 2
    have p3 : w5.cell? ⟨w3.heap.size, 3, none⟩ = some (.int .i64 (n : Int)) := hk5.cell 3
    go_wp2_with fail
    refine (H4.out _ (by exact h.next hb5)).mono ?_
    rintro e w6 ⟨rfl, rfl⟩
    go_wp2_with fail
    refine (H3.out _ _ _ (by exact hI5)).mono ?_
    rintro e w7 ⟨rfl, hb7⟩
    go_wp2_with fail
    go_ret
    exact R1.mk rfl (bnext hb5 hb7)
  · have hz' : Hid (decide (szOk D W) = false) := Lib.hid (decide_eq_false hz)
    go_enter Try.func4, Try.ntmps4
    go_wp2_with fail
    refine (sketches_true _).mono ?_
    rintro e w2 ⟨rfl, hb2⟩
    go_wp2_with fail
    refine (sketchedBad_any D W hz A n c l Hn.out hnb _ (by exact h.next hb2)).mono ?_
    rintro e w3 ⟨v, rfl, A3, c3, rfl, hI, hb3'⟩
    have hb3 := bnext hb2 hb3'
    clear hI
    go_wp2_with fail
    refine (odd_any D W _).mono ?_
    rw [hz'.out]
    rintro e w4 ⟨rfl, rfl⟩
    go_wp2_with fail
    go_ret
    exact R1.mk rfl (bnext hb3 (one_alloc _ _))
end Go.Proofs.Ytkkadfjcnocopaa
