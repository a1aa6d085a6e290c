/- The walk of the law SketchLinear: it returns true. Conditions: the arguments fit their kinds. -/
import Derived.Test.YtkkadfjcnocopaaSkConcat
import Derived.Test.YtkkadfjcnocopaaLawOver
namespace Go.Proofs.Ytkkadfjcnocopaa
open Go.RowKit

theorem has_new (w : World) (cs : Array Value) (e : TypeId) {g : Nat} (hg : g = w.heap.size) : Has (w.alloc (.cells cs e)) (w.alloc (.cells cs e)).heap.size (some ⟨g, 0, none⟩) cs.toList := by subst hg; exact Has.fresh w cs e

set_option maxRecDepth 1000000 in
set_option maxHeartbeats 8000000 in
theorem sketchLinear_true (w : World) (D : Int) (_ : -9223372036854775808 ≤ D ∧ D ≤ 9223372036854775807) (W : Int) (_ : -9223372036854775808 ≤ W ∧ W ≤ 9223372036854775807) (A : Option Addr) (c : Nat) (l : List ByteArray) (hs : ∀ s ∈ l, s.size ≤ maxLen) (hlc : l.length ≤ c) (_ : c ≤ maxLen) (hA : A = none → c = 0) (h : Has w w.heap.size A (strCs l)) (hr : l.length * 16 ≤ 140737488351232)
    (B : Option Addr) (c' : Nat) (k : List ByteArray) (hs' : ∀ s ∈ k, s.size ≤ maxLen) (hkc : k.length ≤ c') (_ : c' ≤ maxLen) (hB : B = none → c' = 0) (h' : Has w w.heap.size B (strCs k)) (hr' : k.length * 16 ≤ 140737488351232) :
    Calls Try.prog 7 #[.int .i64 D, .int .i64 W, .slice A l.length c, .slice B k.length c'] w (R1 (.bool true) (Below w.heap.size w)) := by
  obtain ⟨n, hn⟩ : ∃ n, l.length = n := ⟨_, rfl⟩
  obtain ⟨m, hm⟩ : ∃ m, k.length = m := ⟨_, rfl⟩
  have hnb : n ≤ 8796093022207 := by omega
  have hmb : m ≤ 8796093022207 := by omega
  have Hn := Lib.hid hn
  have Hm := Lib.hid hm
  rw [hn] at hlc ⊢
  rw [hm] at hkc ⊢
  clear hn hr hm hr'
  by_cases hz : szOk D W
  · obtain ⟨h1, h2, h3, h4⟩ := hz
    obtain ⟨d, rfl⟩ := Int.eq_ofNat_of_zero_le (show 0 ≤ D by omega)
    obtain ⟨wd, rfl⟩ := Int.eq_ofNat_of_zero_le (show 0 ≤ W by omega)
    have d1 : 1 ≤ d := by omega
    have d2 : d ≤ 8 := by omega
    have d3 : 1 ≤ wd := by omega
    have d4 : wd ≤ 200 := by omega
    obtain ⟨t, ht⟩ : ∃ t, m + n = t := ⟨_, rfl⟩
    have htn : (n : Int) + (m : Int) = (t : Int) := by omega
    have htm : (m : Int) + (n : Int) = (t : Int) := by omega
    have hkl : (k ++ l).length = t := by rw [List.length_append, Hn.out, Hm.out, ht]
    have hbt : t ≤ 17592186044416 := by omega
    have hm1 := merged (l := l) (m := k) (r := k ++ l) (d := d) d3 (by rw [Hn.out]; omega) (by rw [Hm.out]; omega) (by rw [hkl]; exact hbt) (fun i q => by rw [hitsL_app]; omega)
    have hm2 := merged (l := k) (m := l) (r := k ++ l) (d := d) d3 (by rw [Hm.out]; omega) (by rw [Hn.out]; omega) (by rw [hkl]; exact hbt) (fun i q => by rw [hitsL_app])
    rw [Hn.out, Hm.out, hkl] at hm1 hm2
    obtain ⟨q, hq⟩ : ∃ q, d * wd = q := ⟨_, rfl⟩
    have la := allC_len l wd d n
    have lb := allC_len k wd d m
    have lt := allC_len (k ++ l) wd d t
    have ca := allC_chk (l := l) (k := n) d1 d2 d3 d4 (by omega)
    have cb := allC_chk (l := k) (k := m) d1 d2 d3 d4 (by omega)
    have sk1 := fun (w : World) (h : Has w w.heap.size A (strCs l)) => sketchedGood_any d wd d1 d2 d3 d4 A n c l hs Hn.out (by omega) w h
    have sk2 := fun (w : World) (h : Has w w.heap.size B (strCs k)) => sketchedGood_any d wd d1 d2 d3 d4 B m c' k hs' Hm.out (by omega) w h
    have sk3 := fun (w : World) (A' : Option Addr) (e : Nat) (h : Has w w.heap.size A' (strCs (k ++ l))) => sketchedGood_any d wd d1 d2 d3 d4 A' t e (k ++ l) (fun s hs0 => (List.mem_append.1 hs0).elim (hs' s) (hs s)) hkl hbt w h
    obtain ⟨La, ga⟩ : ∃ x, allC l wd d n = x := ⟨_, rfl⟩
    obtain ⟨Lb, gb⟩ : ∃ x, allC k wd d m = x := ⟨_, rfl⟩
    obtain ⟨T, gt⟩ : ∃ x, allC (k ++ l) wd d t = x := ⟨_, rfl⟩
    rw [ga, hq] at la
    rw [gb, hq] at lb
    rw [gt, hq] at lt
    rw [ga] at ca
    rw [gb] at cb
    rw [ga, gb, gt, hq] at hm1 hm2
    simp only [ga] at sk1
    simp only [gb] at sk2
    simp only [gt] at sk3
    have mk1 : mergeK ⟨d, wd, La, (n : Int)⟩ ⟨d, wd, Lb, (m : Int)⟩ = (⟨d, wd, T, (t : Int)⟩, 0) := by
      unfold mergeK
      rw [if_neg (by show ¬ chkSk _ _ _ _ ≠ 0; rw [ca]; simp), if_neg (by show ¬ chkSk _ _ _ _ ≠ 0; rw [cb]; simp), if_neg (by simp), if_neg (by simp only []; omega)]
      simp only [lb, hm1, htn]
    have mk2 : mergeK ⟨d, wd, Lb, (m : Int)⟩ ⟨d, wd, La, (n : Int)⟩ = (⟨d, wd, T, (t : Int)⟩, 0) := by
      unfold mergeK
      rw [if_neg (by show ¬ chkSk _ _ _ _ ≠ 0; rw [cb]; simp), if_neg (by show ¬ chkSk _ _ _ _ ≠ 0; rw [ca]; simp), if_neg (by simp), if_neg (by simp only []; omega)]
      simp only [la, hm2, htm]
    have M1 := fun (w : World) (X : Option Addr) (x : Nat) (Y : Option Addr) (y : Nat) (hX : IntAt w (.slice X La.length x) La) (hY : IntAt w (.slice Y Lb.length y) Lb) => merge_any d wd X x La (n : Int) d wd Y y Lb (m : Int) w hX hY
    have M2 := fun (w : World) (X : Option Addr) (x : Nat) (Y : Option Addr) (y : Nat) (hX : IntAt w (.slice X Lb.length x) Lb) (hY : IntAt w (.slice Y La.length y) La) => merge_any d wd X x Lb (m : Int) d wd Y y La (n : Int) w hX hY
    simp only [mk1, la, lb] at M1
    simp only [mk2, la, lb] at M2
    have SK1 := Lib.hid sk1
    have SK2 := Lib.hid sk2
    have SK3 := Lib.hid sk3
    have MM1 := Lib.hid M1
    have MM2 := Lib.hid M2
    have LA := Lib.hid la
    have LB := Lib.hid lb
    have LT := Lib.hid lt
    have HT := Lib.hid ht
    clear sk1 sk2 sk3 M1 M2 la lb lt ca cb hm1 hm2 mk1 mk2 ga gb gt hq ht htn htm hkl h1 h2 h3 h4
    go_enter Try.func7, Try.ntmps7
    go_wp2_with fail
    refine (sketches_true _).mono ?_
    rintro e w2 ⟨rfl, hb2⟩
    go_wp2_with fail
    refine (SK1.out _ (by exact h.next hb2)).mono ?_
    rintro e w3 ⟨v, rfl, A3, c3, rfl, hI3, hb3'⟩
    have hb3 := bnext hb2 hb3'
    simp only [LA.out] at hI3 ⊢
    have hb4 := bnext hb3 (one_alloc w3 (.cells #[.int .i64 d, .int .i64 wd, .slice A3 q c3, .int .i64 (n : Int)] 34))
    have ka4 : Blk (w3.alloc (.cells #[.int .i64 d, .int .i64 wd, .slice A3 q c3, .int .i64 (n : Int)] 34)) w3.heap.size 34 #[.int .i64 d, .int .i64 wd, .slice A3 q c3, .int .i64 (n : Int)] := Blk.new _ _ _
    have hI4 := hI3.next (one_alloc w3 (.cells #[.int .i64 d, .int .i64 wd, .slice A3 q c3, .int .i64 (n : Int)] 34))
    go_wp2_with fail
    refine (SK2.out _ (by exact h'.next hb4)).mono ?_
    rintro e w5 ⟨v, rfl, A5, c5, rfl, hJ5, hb5'⟩
    have hb5 := bnext hb4 hb5'
    simp only [LB.out] at hJ5 ⊢
    have ka5 := ka4.next hb5'
    have hI5 := hI4.next hb5'
    have hb6 := bnext hb5 (one_alloc w5 (.cells #[.int .i64 d, .int .i64 wd, .slice A5 q c5, .int .i64 (m : Int)] 34))
    have kb6 : Blk (w5.alloc (.cells #[.int .i64 d, .int .i64 wd, .slice A5 q c5, .int .i64 (m : Int)] 34)) w5.heap.size 34 #[.int .i64 d, .int .i64 wd, .slice A5 q c5, .int .i64 (m : Int)] := Blk.new _ _ _
    have ka6 := ka5.next (one_alloc w5 (.cells #[.int .i64 d, .int .i64 wd, .slice A5 q c5, .int .i64 (m : Int)] 34))
    have hI6 := hI5.next (one_alloc w5 (.cells #[.int .i64 d, .int .i64 wd, .slice A5 q c5, .int .i64 (m : Int)] 34))
    have hJ6 := hJ5.next (one_alloc w5 (.cells #[.int .i64 d, .int .i64 wd, .slice A5 q c5, .int .i64 (m : Int)] 34))
    go_wp2_with fail
    have hs6 : (w5.alloc (.cells #[.int .i64 d, .int .i64 wd, .slice A5 q c5, .int .i64 (m : Int)] 34)).heap.size = w5.heap.size + 1 := by simp
    have hb67 := one_alloc (w5.alloc (.cells #[.int .i64 d, .int .i64 wd, .slice A5 q c5, .int .i64 (m : Int)] 34)) (.cells #[.slice B m c', .slice A n c] 32)
    have ka7 := ka6.next hb67
    have kb7 := kb6.next hb67
    have hI7 := hI6.next hb67
    have hJ7 := hJ6.next hb67
    have hb7 := bnext hb6 hb67
    have kl7 : Blk ((w5.alloc (.cells #[.int .i64 d, .int .i64 wd, .slice A5 q c5, .int .i64 (m : Int)] 34)).alloc (.cells #[.slice B m c', .slice A n c] 32)) (w5.heap.size + 1) 32 #[.slice B m c', .slice A n c] := by have := Blk.new (w5.alloc (.cells #[.int .i64 d, .int .i64 wd, .slice A5 q c5, .int .i64 (m : Int)] 34)) 32 #[.slice B m c', .slice A n c]; rwa [hs6] at this
    obtain ⟨w7, hw7⟩ : ∃ w7, ((w5.alloc (.cells #[.int .i64 d, .int .i64 wd, .slice A5 q c5, .int .i64 (m : Int)] 34)).alloc (.cells #[.slice B m c', .slice A n c] 32)) = w7 := ⟨_, rfl⟩
    rw [hw7] at ka7 kb7 hI7 hJ7 hb7 kl7 ⊢
    clear hw7 hb67
    refine (concat_any B m c' k A n c l Hm.out Hn.out hmb hnb hB hkc hA hlc _ (by exact h'.next hb7) (by exact h.next hb7) ⟨w5.heap.size + 1, 0, none⟩ kl7.lt (kl7.cell 0) (by unfold Addr.add; rw [if_neg (by decide)]; exact kl7.cell 1)).mono ?_
    rw [HT.out]
    rintro e w8 ⟨v, rfl, A8, c8, rfl, hQ, hb8'⟩
    have ka8 := ka7.next hb8'
    have kb8 := kb7.next hb8'
    have hI8 := hI7.next hb8'
    have hJ8 := hJ7.next hb8'
    have hb8 := bnext hb7 hb8'
    go_wp2_with fail
    refine (SK3.out _ _ _ (by exact hQ)).mono ?_
    rintro e w9 ⟨v, rfl, A9, c9, rfl, hK9, hb9'⟩
    simp only [LT.out] at hK9 ⊢
    have ka9 := ka8.next hb9'
    have kb9 := kb8.next hb9'
    have hI9 := hI8.next hb9'
    have hJ9 := hJ8.next hb9'
    have hb9 := bnext hb8 hb9'
    have hb90 := one_alloc w9 (.cells #[.int .i64 d, .int .i64 wd, .slice A9 q c9, .int .i64 (t : Int)] 34)
    have kc10 : Blk (w9.alloc (.cells #[.int .i64 d, .int .i64 wd, .slice A9 q c9, .int .i64 (t : Int)] 34)) w9.heap.size 34 #[.int .i64 d, .int .i64 wd, .slice A9 q c9, .int .i64 (t : Int)] := Blk.new _ _ _
    have ka10 := ka9.next hb90
    have kb10 := kb9.next hb90
    have hI10 := hI9.next hb90
    have hJ10 := hJ9.next hb90
    have hK10 := hK9.next hb90
    have hb10 := bnext hb9 hb90
    have p0 : (w9.alloc (.cells #[.int .i64 d, .int .i64 wd, .slice A9 q c9, .int .i64 (t : Int)] 34)).cell? ⟨w3.heap.size, 0, none⟩ = some (.int .i64 d) := ka10.cell 0
    have p1 : (w9.alloc (.cells #[.int .i64 d, .int .i64 wd, .slice A9 q c9, .int .i64 (t : Int)] 34)).cell? ⟨w3.heap.size, 1, none⟩ = some (.int .i64 wd) := ka10.cell 1
    have p2 : (w9.alloc (.cells #[.int .i64 d, .int .i64 wd, .slice A9 q c9, .int .i64 (t : Int)] 34)).cell? ⟨w3.heap.size, 2, none⟩ = some (.slice A3 q c3) := ka10.cell 2
    have p3 : (w9.alloc (.cells #[.int .i64 d, .int .i64 wd, .slice A9 q c9, .int .i64 (t : Int)] 34)).cell? ⟨w3.heap.size, 3, none⟩ = some (.int .i64 (n : Int)) := ka10.cell 3
    have q0 : (w9.alloc (.cells #[.int .i64 d, .int .i64 wd, .slice A9 q c9, .int .i64 (t : Int)] 34)).cell? ⟨w5.heap.size, 0, none⟩ = some (.int .i64 d) := kb10.cell 0
    have q1 : (w9.alloc (.cells #[.int .i64 d, .int .i64 wd, .slice A9 q c9, .int .i64 (t : Int)] 34)).cell? ⟨w5.heap.size, 1, none⟩ = some (.int .i64 wd) := kb10.cell 1
    have q2 : (w9.alloc (.cells #[.int .i64 d, .int .i64 wd, .slice A9 q c9, .int .i64 (t : Int)] 34)).cell? ⟨w5.heap.size, 2, none⟩ = some (.slice A5 q c5) := kb10.cell 2
    have q3 : (w9.alloc (.cells #[.int .i64 d, .int .i64 wd, .slice A9 q c9, .int .i64 (t : Int)] 34)).cell? ⟨w5.heap.size, 3, none⟩ = some (.int .i64 (m : Int)) := kb10.cell 3
    go_wp2_with fail
    refine (MM1.out _ _ _ _ _ (by exact hI10) (by exact hJ10)).mono ?_
    rintro e w11 ⟨v, rfl, A11, c11, rfl, hX11, hb11', _⟩
    simp only [LT.out] at hX11 ⊢
    clear p0 p1 p2 p3 q0 q1 q2 q3
    have ka11 := ka10.next hb11'
    have kb11 := kb10.next hb11'
    have kc11 := kc10.next hb11'
    have hI11 := hI10.next hb11'
    have hJ11 := hJ10.next hb11'
    have hK11 := hK10.next hb11'
    have hb11 := bnext hb10 hb11'
    have hb110 := one_alloc w11 (.cells #[.int .i64 d, .int .i64 wd, .slice A11 q c11, .int .i64 (t : Int)] 34)
    have kx12 : Blk (w11.alloc (.cells #[.int .i64 d, .int .i64 wd, .slice A11 q c11, .int .i64 (t : Int)] 34)) w11.heap.size 34 #[.int .i64 d, .int .i64 wd, .slice A11 q c11, .int .i64 (t : Int)] := Blk.new _ _ _
    have ka12 := ka11.next hb110
    have kb12 := kb11.next hb110
    have kc12 := kc11.next hb110
    have hI12 := hI11.next hb110
    have hJ12 := hJ11.next hb110
    have hK12 := hK11.next hb110
    have hX12 := hX11.next hb110
    have hb12 := bnext hb11 hb110
    have p0 : (w11.alloc (.cells #[.int .i64 d, .int .i64 wd, .slice A11 q c11, .int .i64 (t : Int)] 34)).cell? ⟨w3.heap.size, 0, none⟩ = some (.int .i64 d) := ka12.cell 0
    have p1 : (w11.alloc (.cells #[.int .i64 d, .int .i64 wd, .slice A11 q c11, .int .i64 (t : Int)] 34)).cell? ⟨w3.heap.size, 1, none⟩ = some (.int .i64 wd) := ka12.cell 1
    have p2 : (w11.alloc (.cells #[.int .i64 d, .int .i64 wd, .slice A11 q c11, .int .i64 (t : Int)] 34)).cell? ⟨w3.heap.size, 2, none⟩ = some (.slice A3 q c3) := ka12.cell 2
    have p3 : (w11.alloc (.cells #[.int .i64 d, .int .i64 wd, .slice A11 q c11, .int .i64 (t : Int)] 34)).cell? ⟨w3.heap.size, 3, none⟩ = some (.int .i64 (n : Int)) := ka12.cell 3
    have q0 : (w11.alloc (.cells #[.int .i64 d, .int .i64 wd, .slice A11 q c11, .int .i64 (t : Int)] 34)).cell? ⟨w5.heap.size, 0, none⟩ = some (.int .i64 d) := kb12.cell 0
    have q1 : (w11.alloc (.cells #[.int .i64 d, .int .i64 wd, .slice A11 q c11, .int .i64 (t : Int)] 34)).cell? ⟨w5.heap.size, 1, none⟩ = some (.int .i64 wd) := kb12.cell 1
    have q2 : (w11.alloc (.cells #[.int .i64 d, .int .i64 wd, .slice A11 q c11, .int .i64 (t : Int)] 34)).cell? ⟨w5.heap.size, 2, none⟩ = some (.slice A5 q c5) := kb12.cell 2
    have q3 : (w11.alloc (.cells #[.int .i64 d, .int .i64 wd, .slice A11 q c11, .int .i64 (t : Int)] 34)).cell? ⟨w5.heap.size, 3, none⟩ = some (.int .i64 (m : Int)) := kb12.cell 3
    go_wp2_with fail
    refine (MM2.out _ _ _ _ _ (by exact hJ12) (by exact hI12)).mono ?_
    rintro e w13 ⟨v, rfl, A13, c13, rfl, hY13, hb13', _⟩
    simp only [LT.out] at hY13 ⊢
    clear p0 p1 p2 p3 q0 q1 q2 q3
    have kc13 := kc12.next hb13'
    have kx13 := kx12.next hb13'
    have hK13 := hK12.next hb13'
    have hX13 := hX12.next hb13'
    have hb13 := bnext hb12 hb13'
    have hb130 := one_alloc w13 (.cells #[.int .i64 d, .int .i64 wd, .slice A13 q c13, .int .i64 (t : Int)] 34)
    have ky14 : Blk (w13.alloc (.cells #[.int .i64 d, .int .i64 wd, .slice A13 q c13, .int .i64 (t : Int)] 34)) w13.heap.size 34 #[.int .i64 d, .int .i64 wd, .slice A13 q c13, .int .i64 (t : Int)] := Blk.new _ _ _
    have kc14 := kc13.next hb130
    have kx14 := kx13.next hb130
    have hK14 := hK13.next hb130
    have hX14 := hX13.next hb130
    have hY14 := hY13.next hb130
    have hb14 := bnext hb13 hb130
    go_wp2_with fail
    refine (good_any _ 2 _ [0, 0] rfl (by decide) _ (has_new (w13.alloc (.cells #[.int .i64 d, .int .i64 wd, .slice A13 q c13, .int .i64 (t : Int)] 34)) #[.int .i64 0, .int .i64 0] _ (by simp))).mono ?_
    rintro e w15 ⟨rfl, n15, rfl⟩
    have hb140 : Below (w13.alloc (.cells #[.int .i64 d, .int .i64 wd, .slice A13 q c13, .int .i64 (t : Int)] 34)).heap.size (w13.alloc (.cells #[.int .i64 d, .int .i64 wd, .slice A13 q c13, .int .i64 (t : Int)] 34)) (((w13.alloc (.cells #[.int .i64 d, .int .i64 wd, .slice A13 q c13, .int .i64 (t : Int)] 34)).alloc (.cells #[.int .i64 0, .int .i64 0] 27)).drewN n15) := below_drewN (one_alloc (w13.alloc (.cells #[.int .i64 d, .int .i64 wd, .slice A13 q c13, .int .i64 (t : Int)] 34)) (.cells #[.int .i64 0, .int .i64 0] 27)) n15
    have kc15 := kc14.next hb140
    have kx15 := kx14.next hb140
    have ky15 := ky14.next hb140
    have hK15 := hK14.next hb140
    have hX15 := hX14.next hb140
    have hY15 := hY14.next hb140
    have hb15 := bnext hb14 hb140
    obtain ⟨w15, hw15⟩ : ∃ w15, (((w13.alloc (.cells #[.int .i64 d, .int .i64 wd, .slice A13 q c13, .int .i64 (t : Int)] 34)).alloc (.cells #[.int .i64 0, .int .i64 0] 27)).drewN n15) = w15 := ⟨_, rfl⟩
    rw [hw15] at kc15 kx15 ky15 hK15 hX15 hY15 hb15 ⊢
    clear hw15 hb140
    have p0 : w15.cell? ⟨w11.heap.size, 0, none⟩ = some (.int .i64 d) := kx15.cell 0
    have p1 : w15.cell? ⟨w11.heap.size, 1, none⟩ = some (.int .i64 wd) := kx15.cell 1
    have p2 : w15.cell? ⟨w11.heap.size, 2, none⟩ = some (.slice A11 q c11) := kx15.cell 2
    have p3 : w15.cell? ⟨w11.heap.size, 3, none⟩ = some (.int .i64 (t : Int)) := kx15.cell 3
    have q0 : w15.cell? ⟨w9.heap.size, 0, none⟩ = some (.int .i64 d) := kc15.cell 0
    have q1 : w15.cell? ⟨w9.heap.size, 1, none⟩ = some (.int .i64 wd) := kc15.cell 1
    have q2 : w15.cell? ⟨w9.heap.size, 2, none⟩ = some (.slice A9 q c9) := kc15.cell 2
    have q3 : w15.cell? ⟨w9.heap.size, 3, none⟩ = some (.int .i64 (t : Int)) := kc15.cell 3
    go_wp2_with fail
    refine (sameSk_any' d wd A11 q c11 T (t : Int) d wd A9 q c9 T (t : Int) LT.out LT.out _ (by exact hX15) (by exact hK15)).mono ?_
    rw [decide_eq_true rfl, decide_eq_true rfl, decide_eq_true rfl, decide_eq_true rfl]
    rintro e w16 ⟨rfl, hb16'⟩
    clear p0 p1 p2 p3 q0 q1 q2 q3
    have kc16 := kc15.next hb16'
    have kx16 := kx15.next hb16'
    have ky16 := ky15.next hb16'
    have hK16 := hK15.next hb16'
    have hX16 := hX15.next hb16'
    have hY16 := hY15.next hb16'
    have hb16 := bnext hb15 hb16'
    have p0 : w16.cell? ⟨w13.heap.size, 0, none⟩ = some (.int .i64 d) := ky16.cell 0
    have p1 : w16.cell? ⟨w13.heap.size, 1, none⟩ = some (.int .i64 wd) := ky16.cell 1
    have p2 : w16.cell? ⟨w13.heap.size, 2, none⟩ = some (.slice A13 q c13) := ky16.cell 2
    have p3 : w16.cell? ⟨w13.heap.size, 3, none⟩ = some (.int .i64 (t : Int)) := ky16.cell 3
    have q0 : w16.cell? ⟨w9.heap.size, 0, none⟩ = some (.int .i64 d) := kc16.cell 0
    have q1 : w16.cell? ⟨w9.heap.size, 1, none⟩ = some (.int .i64 wd) := kc16.cell 1
    have q2 : w16.cell? ⟨w9.heap.size, 2, none⟩ = some (.slice A9 q c9) := kc16.cell 2
    have q3 : w16.cell? ⟨w9.heap.size, 3, none⟩ = some (.int .i64 (t : Int)) := kc16.cell 3
    go_wp2_with fail
    refine (sameSk_any' d wd A13 q c13 T (t : Int) d wd A9 q c9 T (t : Int) LT.out LT.out _ (by exact hY16) (by exact hK16)).mono ?_
    rw [decide_eq_true rfl, decide_eq_true rfl, decide_eq_true rfl, decide_eq_true rfl]
    rintro e w17 ⟨rfl, hb17'⟩
    go_wp2_with fail
    go_ret
    exact R1.mk rfl (bnext hb16 hb17')
  · have hz' : Hid (decide (szOk D W) = false) := Lib.hid (decide_eq_false hz)
    go_enter Try.func7, Try.ntmps7
    go_wp2_with fail
    refine (sketches_true _).mono ?_
    rintro e w2 ⟨rfl, hb2⟩
    go_wp2_with fail
    refine (sketchedBad_any D W hz A n c l Hn.out (by omega) _ (by exact h.next hb2)).mono ?_
    rintro e w3 ⟨v, rfl, A3, c3, rfl, hI, hb3'⟩
    have hb4 := bnext (bnext hb2 hb3') (one_alloc w3 (.cells #[.int .i64 0, .int .i64 0, .slice A3 0 c3, .int .i64 0] 34))
    clear hI
    go_wp2_with fail
    refine (sketchedBad_any D W hz B m c' k Hm.out (by omega) _ (by exact h'.next hb4)).mono ?_
    rintro e w5 ⟨v, rfl, A5, c5, rfl, hI, hb5'⟩
    have hb6 := bnext (bnext hb4 hb5') (one_alloc w5 (.cells #[.int .i64 0, .int .i64 0, .slice A5 0 c5, .int .i64 0] 34))
    clear hI
    have hs6 : (w5.alloc (.cells #[.int .i64 0, .int .i64 0, .slice A5 0 c5, .int .i64 0] 34)).heap.size = w5.heap.size + 1 := by simp
    have hb7 := bnext hb6 (one_alloc (w5.alloc (.cells #[.int .i64 0, .int .i64 0, .slice A5 0 c5, .int .i64 0] 34)) (.cells #[.slice B m c', .slice A n c] 32))
    have kl7 : Blk ((w5.alloc (.cells #[.int .i64 0, .int .i64 0, .slice A5 0 c5, .int .i64 0] 34)).alloc (.cells #[.slice B m c', .slice A n c] 32)) (w5.heap.size + 1) 32 #[.slice B m c', .slice A n c] := by have := Blk.new (w5.alloc (.cells #[.int .i64 0, .int .i64 0, .slice A5 0 c5, .int .i64 0] 34)) 32 #[.slice B m c', .slice A n c]; rwa [hs6] at this
    go_wp2_with fail
    refine (concat_any B m c' k A n c l Hm.out Hn.out hmb hnb hB hkc hA hlc _ (by exact h'.next hb7) (by exact h.next hb7) ⟨w5.heap.size + 1, 0, none⟩ kl7.lt (kl7.cell 0) (by unfold Addr.add; rw [if_neg (by decide)]; exact kl7.cell 1)).mono ?_
    rintro e w8 ⟨v, rfl, A8, c8, rfl, hQ, hb8'⟩
    have hb8 := bnext hb7 hb8'
    go_wp2_with fail
    refine (sketchedBad_any D W hz A8 (m + n) c8 (k ++ l) (by rw [List.length_append, Hn.out, Hm.out]) (by omega) _ (by exact hQ)).mono ?_
    rintro e w9 ⟨v, rfl, A9, c9, rfl, hI, hb9'⟩
    have hb9 := bnext hb8 hb9'
    clear hI
    go_wp2_with fail
    refine (odd_any D W _).mono ?_
    rw [hz'.out]
    rintro e w10 ⟨rfl, rfl⟩
    go_wp2_with fail
    go_ret
    exact R1.mk rfl (bnext hb9 (one_alloc _ _))
end Go.Proofs.Ytkkadfjcnocopaa
