/- The walk of the law HeavyMerged: it returns true. Conditions: the arguments fit their kinds. -/
import Derived.Test.YtnppgocedokioaaHvM
namespace Go.Proofs.Ytnppgocedokioaa
open Go.RowKit

theorem mrgH_big {a b : Hv} (hK : a.K = b.K) (h : 1000000000 < a.N + b.N) : mrgH a b = (zeroHv, 2) := by
  unfold mrgH; rw [if_neg (fun g => g hK), if_pos h]

set_option maxRecDepth 1000000 in
set_option maxHeartbeats 16000000 in
theorem heavyMerged_true (w : World) (K : Int) (hK : -9223372036854775808 ≤ K ∧ K ≤ 9223372036854775807) (A : Option Addr) (c : Nat) (l : List ByteArray) (_ : ∀ s ∈ l, s.size ≤ maxLen) (_ : l.length ≤ c) (_ : c ≤ maxLen) (_ : A = none → c = 0) (h : Has w w.heap.size A (strCs l)) (hr : l.length * 16 ≤ 140737488351232)
    (B : Option Addr) (d : Nat) (l' : List ByteArray) (_ : ∀ s ∈ l', s.size ≤ maxLen) (_ : l'.length ≤ d) (_ : d ≤ maxLen) (_ : B = none → d = 0) (h' : Has w w.heap.size B (strCs l')) (hr' : l'.length * 16 ≤ 140737488351232) (key : ByteArray) (_ : key.size ≤ maxLen) :
    Calls Try.prog 6 #[.int .i64 K, .slice A l.length c, .slice B l'.length d, .string key] w (R1 (.bool true) (Below w.heap.size w)) := by
  obtain ⟨n, hn⟩ : ∃ n, l.length = n := ⟨_, rfl⟩
  obtain ⟨m, hm⟩ : ∃ m, l'.length = m := ⟨_, rfl⟩
  have hnb : n ≤ 17592186044416 := by omega
  have hmb : m ≤ 17592186044416 := by omega
  have hbad1 := fun h => tal_bad (K := K) (l := l) (k := n) (by omega) h
  have hbad2 := fun h => tal_bad (K := K) (l := l') (k := m) (by omega) h
  have hok1 := fun h => tal_ok (K := K) (l := l) (k := n) h
  have hok2 := fun h => tal_ok (K := K) (l := l') (k := m) h
  have H1 := Lib.hid (fun (w : World) (h : Has w w.heap.size A (strCs l)) => tallied_any K A n c l hn hnb w h)
  have G1 := Lib.hid (fun (w : World) (h : Has w w.heap.size B (strCs l')) => tallied_any K B m d l' hm hmb w h)
  have H2 := Lib.hid (fun (w : World) (h : Has w w.heap.size A (strCs l)) => timesH_any A n c l key hn hnb w h)
  have G2 := Lib.hid (fun (w : World) (h : Has w w.heap.size B (strCs l')) => timesH_any B m d l' key hm hmb w h)
  have H3 := Lib.hid (fun (w : World) (h : Has w w.heap.size A (strCs l)) => long_any A n c l hn hnb w h)
  have G3 := Lib.hid (fun (w : World) (h : Has w w.heap.size B (strCs l')) => long_any B m d l' hm hmb w h)
  have ht0 := timesH_le l key n
  have hu0 := timesH_le l' key m
  rw [hn, hm]
  rw [hn] at hbad1
  rw [hm] at hbad2
  obtain ⟨r1, hr1⟩ : ∃ r, talH K l n = r := ⟨_, rfl⟩
  obtain ⟨r2, hr2⟩ : ∃ r, talH K l' m = r := ⟨_, rfl⟩
  rw [hr1] at H1 hbad1 hok1
  rw [hr2] at G1 hbad2 hok2
  obtain ⟨⟨K1, L1, N1, O1⟩, e1⟩ := r1
  obtain ⟨⟨K2, L2, N2, O2⟩, e2⟩ := r2
  simp only [] at hbad1 hok1 hbad2 hok2
  have hbadAll := Lib.hid (show e1 ≠ 0 ∨ e2 ≠ 0 → (K < 1 ∨ 64 < K) ∨ longB l = true ∨ longB l' = true ∨ decide ((1000000000 : Int) < (n : Int)) = true ∨ decide ((1000000000 : Int) < (m : Int)) = true by
    rintro (g | g)
    · rcases hbad1 g with g | g | ⟨x, hx, g⟩ | g
      · exact .inl (.inl g)
      · exact .inl (.inr g)
      · exact .inr (.inl (List.any_eq_true.2 ⟨x, hx, decide_eq_true g⟩))
      · exact .inr (.inr (.inr (.inl (decide_eq_true g))))
    · rcases hbad2 g with g | g | ⟨x, hx, g⟩ | g
      · exact .inl (.inl g)
      · exact .inl (.inr g)
      · exact .inr (.inr (.inl (List.any_eq_true.2 ⟨x, hx, decide_eq_true g⟩)))
      · exact .inr (.inr (.inr (.inr (decide_eq_true g)))))
  obtain ⟨t, ht⟩ : ∃ t, timesH l key n = t := ⟨_, rfl⟩
  obtain ⟨u, hu⟩ : ∃ u, timesH l' key m = u := ⟨_, rfl⟩
  have Ht := Lib.hid ht
  have Hu := Lib.hid hu
  rw [ht] at H2 ht0
  rw [hu] at G2 hu0
  obtain ⟨p1, hp1⟩ : ∃ p, L1.length = p := ⟨_, rfl⟩
  obtain ⟨p2, hp2⟩ : ∃ p, L2.length = p := ⟨_, rfl⟩
  have Hp1 := Lib.hid hp1
  have Hp2 := Lib.hid hp2
  clear hn hm hr hr' hr1 hr2 ht hu hbad1 hbad2 hp1 hp2
  by_cases hee : e1 = 0 ∧ e2 = 0
  · obtain ⟨rfl, rfl⟩ := hee
    obtain ⟨o1, q1, q2, q3⟩ := hok1 rfl
    obtain ⟨o2, q4, q5, q6⟩ := hok2 rfl
    have q1 : K1 = K := q1
    have q2 : N1 = (n : Int) := q2
    have q4 : K2 = K := q4
    have q5 : N2 = (m : Int) := q5
    subst q1 q2 q5
    have q3 := q3 key
    have q6 := q6 key
    rw [Ht.out] at q3
    rw [Hu.out] at q6
    have q3 : lookH L1 key ≤ t ∧ t ≤ lookH L1 key + O1 := q3
    have q6 : lookH L2 key ≤ u ∧ u ≤ lookH L2 key + O2 := q6
    subst q4
    clear hok1 hok2 hbadAll
    have a4 : (n : Int) ≤ 1000000000 := o1.n1
    have b4 : (m : Int) ≤ 1000000000 := o2.n1
    have HM := Lib.hid (fun (A : Option Addr) (c : Nat) (B : Option Addr) (d : Nat) (w : World) (h1 : HvL w A c L1) (h2 : HvL w B d L2) => merge_any K2 n O1 m O2 A p1 c L1 B p2 d L2 Hp1.out Hp2.out o1 o2 w h1 h2)
    by_cases hbig : (1000000000 : Int) < (n : Int) + (m : Int)
    · rw [mrgH_big (a := ⟨K2, L1, n, O1⟩) (b := ⟨K2, L2, m, O2⟩) rfl hbig] at HM
      have d1 := decide_eq_true hbig
      clear o1 o2 q3 q6
      go_enter Try.func6, Try.ntmps6
      go_wp2_with fail
      refine (tallies_true _).mono ?_
      rintro e w2 ⟨rfl, hb2⟩
      go_wp2_with fail
      refine (H1.out _ (by exact h.next hb2)).mono ?_
      rintro e w3 ⟨v, rfl, A3, c3, rfl, hI3, hb3'⟩
      unfold tvH
      simp only [Hp1.out] at hI3 ⊢
      have hb3 := bnext hb2 hb3'
      have hI4 := hI3.next (one_alloc w3 (.cells #[.int .i64 K2, .slice A3 p1 c3, .int .i64 (n : Int), .int .i64 O1] 26))
      have hb4 := bnext hb3 (one_alloc w3 (.cells #[.int .i64 K2, .slice A3 p1 c3, .int .i64 (n : Int), .int .i64 O1] 26))
      have kA4 : Blk (w3.alloc (.cells #[.int .i64 K2, .slice A3 p1 c3, .int .i64 (n : Int), .int .i64 O1] 26)) w3.heap.size 26 #[.int .i64 K2, .slice A3 p1 c3, .int .i64 (n : Int), .int .i64 O1] := Blk.new _ _ _
      go_wp2_with fail
      refine (G1.out _ (by exact h'.next hb4)).mono ?_
      rintro e w5 ⟨v, rfl, A5, c5, rfl, hI5, hb5'⟩
      unfold tvH
      simp only [Hp2.out] at hI5 ⊢
      have hb5 := bnext hb4 hb5'
      have kA6 := (kA4.next hb5').next (one_alloc w5 (.cells #[.int .i64 K2, .slice A5 p2 c5, .int .i64 (m : Int), .int .i64 O2] 26))
      have kB6 : Blk (w5.alloc (.cells #[.int .i64 K2, .slice A5 p2 c5, .int .i64 (m : Int), .int .i64 O2] 26)) w5.heap.size 26 #[.int .i64 K2, .slice A5 p2 c5, .int .i64 (m : Int), .int .i64 O2] := Blk.new _ _ _
      have hI36 := (hI4.next hb5').next (one_alloc w5 (.cells #[.int .i64 K2, .slice A5 p2 c5, .int .i64 (m : Int), .int .i64 O2] 26))
      have hI56 := hI5.next (one_alloc w5 (.cells #[.int .i64 K2, .slice A5 p2 c5, .int .i64 (m : Int), .int .i64 O2] 26))
      have hb6 := bnext hb5 (one_alloc w5 (.cells #[.int .i64 K2, .slice A5 p2 c5, .int .i64 (m : Int), .int .i64 O2] 26))
      have x0 : (w5.alloc (.cells #[.int .i64 K2, .slice A5 p2 c5, .int .i64 (m : Int), .int .i64 O2] 26)).cell? ⟨w3.heap.size, 0, none⟩ = some (.int .i64 K2) := kA6.cell 0
      have x1 : (w5.alloc (.cells #[.int .i64 K2, .slice A5 p2 c5, .int .i64 (m : Int), .int .i64 O2] 26)).cell? ⟨w3.heap.size, 1, none⟩ = some (.slice A3 p1 c3) := kA6.cell 1
      have x2 : (w5.alloc (.cells #[.int .i64 K2, .slice A5 p2 c5, .int .i64 (m : Int), .int .i64 O2] 26)).cell? ⟨w3.heap.size, 2, none⟩ = some (.int .i64 (n : Int)) := kA6.cell 2
      have x3 : (w5.alloc (.cells #[.int .i64 K2, .slice A5 p2 c5, .int .i64 (m : Int), .int .i64 O2] 26)).cell? ⟨w3.heap.size, 3, none⟩ = some (.int .i64 O1) := kA6.cell 3
      go_wp2_with fail
      refine (HM.out _ _ _ _ _ (by exact hI36) (by exact hI56)).mono ?_
      rintro e w7 ⟨v, rfl, A7, c7, rfl, hI7, hb7', _⟩
      unfold tvH zeroHv
      have hb7 := bnext hb6 hb7'
      go_wp2_with fail
      go_ret
      exact R1.mk rfl (bnext hb7 (one_alloc _ _))
    · have hsmall : (n : Int) + (m : Int) ≤ 1000000000 := by omega
      obtain ⟨g1, g2, g3, g4, g5⟩ := okHv_mrg o1 o2 rfl (by exact hsmall)
      have g6 := g5 key
      clear g5
      obtain ⟨r, hr⟩ : ∃ r, mrgH ⟨K2, L1, n, O1⟩ ⟨K2, L2, m, O2⟩ = r := ⟨_, rfl⟩
      rw [hr] at g1 g2 g3 g4 g6 HM
      obtain ⟨⟨K3, L3, N3, O3⟩, e3⟩ := r
      simp only [] at g2 g3 g4 g6
      subst g2 g3 g4
      have d1 := decide_eq_false hbig
      obtain ⟨p3, hp3⟩ : ∃ p, L3.length = p := ⟨_, rfl⟩
      obtain ⟨z, hz⟩ : ∃ z, lookH L3 key = z := ⟨_, rfl⟩
      rw [hz] at g6
      have m1 : 1 ≤ K3 := g1.k1
      have m2 : K3 ≤ 64 := g1.k2
      have m3 : 0 ≤ O3 := g1.off
      have m5 : O3 ≤ (n : Int) + (m : Int) := g1.more.1
      have m6 : (K3 + 1) * O3 ≤ (n : Int) + (m : Int) := g1.more.2.2.2.2.2
      have z0 : 0 ≤ z := by rw [← hz]; exact lookH_nonneg (fun c hc => (g1.each c hc).2) key
      obtain ⟨P, hP⟩ : ∃ P, (K3 + 1) * O3 = P := ⟨_, rfl⟩
      have p0 : 0 ≤ P := by rw [← hP]; exact Int.mul_nonneg (by omega) m3
      rw [hP] at m6
      have hPw : IntKind.i64.wrap ((K3 + 1) * O3) = P := by rw [hP]; exact IntWalk.i64_in _ (by omega)
      have H4 := Lib.hid (fun (A : Option Addr) (c : Nat) (w : World) (h : HvL w A c L3) => count_any K3 ((n : Int) + (m : Int)) O3 A p3 c L3 hp3 g1 key w h)
      have H5 := Lib.hid (fun (A : Option Addr) (c : Nat) (w : World) (h : HvL w A c L3) => hcheck_any K3 ((n : Int) + (m : Int)) O3 A p3 c L3 hp3 g1 w h.2.2.2)
      have Hp3 := Lib.hid hp3
      have ewt : IntKind.i64.wrap (t + u) = t + u := IntWalk.i64_in _ (by omega)
      have ewn : IntKind.i64.wrap ((n : Int) + (m : Int)) = (n : Int) + (m : Int) := IntWalk.i64_in _ (by omega)
      have ewz : IntKind.i64.wrap (z + O3) = z + O3 := IntWalk.i64_in _ (by omega)
      have d2 : decide (z ≤ t + u) = true := decide_eq_true (by omega)
      have d3 : decide (t + u ≤ z + O3) = true := decide_eq_true (by omega)
      have d4 : decide (P ≤ (n : Int) + (m : Int)) = true := decide_eq_true m6
      clear hP hp3 g1 hr o1 o2 q3 q6
      by_cases hkl : 40 < key.size
      · have ec : countH ⟨K3, L3, (n : Int) + (m : Int), O3⟩ key = (0, 2) := by unfold countH; rw [if_pos hkl]
        rw [ec] at H4
        have hd := Lib.hid (decide_eq_true hkl)
        clear ec hz hkl
        go_enter Try.func6, Try.ntmps6
        go_wp2_with fail
        refine (tallies_true _).mono ?_
        rintro e w2 ⟨rfl, hb2⟩
        go_wp2_with fail
        refine (H1.out _ (by exact h.next hb2)).mono ?_
        rintro e w3 ⟨v, rfl, A3, c3, rfl, hI3, hb3'⟩
        unfold tvH
        simp only [Hp1.out] at hI3 ⊢
        have hb3 := bnext hb2 hb3'
        have hI4 := hI3.next (one_alloc w3 (.cells #[.int .i64 K3, .slice A3 p1 c3, .int .i64 (n : Int), .int .i64 O1] 26))
        have hb4 := bnext hb3 (one_alloc w3 (.cells #[.int .i64 K3, .slice A3 p1 c3, .int .i64 (n : Int), .int .i64 O1] 26))
        have kA4 : Blk (w3.alloc (.cells #[.int .i64 K3, .slice A3 p1 c3, .int .i64 (n : Int), .int .i64 O1] 26)) w3.heap.size 26 #[.int .i64 K3, .slice A3 p1 c3, .int .i64 (n : Int), .int .i64 O1] := Blk.new _ _ _
        go_wp2_with fail
        refine (G1.out _ (by exact h'.next hb4)).mono ?_
        rintro e w5 ⟨v, rfl, A5, c5, rfl, hI5, hb5'⟩
        unfold tvH
        simp only [Hp2.out] at hI5 ⊢
        have hb5 := bnext hb4 hb5'
        have kA6 := (kA4.next hb5').next (one_alloc w5 (.cells #[.int .i64 K3, .slice A5 p2 c5, .int .i64 (m : Int), .int .i64 O2] 26))
        have kB6 : Blk (w5.alloc (.cells #[.int .i64 K3, .slice A5 p2 c5, .int .i64 (m : Int), .int .i64 O2] 26)) w5.heap.size 26 #[.int .i64 K3, .slice A5 p2 c5, .int .i64 (m : Int), .int .i64 O2] := Blk.new _ _ _
        have hI36 := (hI4.next hb5').next (one_alloc w5 (.cells #[.int .i64 K3, .slice A5 p2 c5, .int .i64 (m : Int), .int .i64 O2] 26))
        have hI56 := hI5.next (one_alloc w5 (.cells #[.int .i64 K3, .slice A5 p2 c5, .int .i64 (m : Int), .int .i64 O2] 26))
        have hb6 := bnext hb5 (one_alloc w5 (.cells #[.int .i64 K3, .slice A5 p2 c5, .int .i64 (m : Int), .int .i64 O2] 26))
        have x0 : (w5.alloc (.cells #[.int .i64 K3, .slice A5 p2 c5, .int .i64 (m : Int), .int .i64 O2] 26)).cell? ⟨w3.heap.size, 0, none⟩ = some (.int .i64 K3) := kA6.cell 0
        have x1 : (w5.alloc (.cells #[.int .i64 K3, .slice A5 p2 c5, .int .i64 (m : Int), .int .i64 O2] 26)).cell? ⟨w3.heap.size, 1, none⟩ = some (.slice A3 p1 c3) := kA6.cell 1
        have x2 : (w5.alloc (.cells #[.int .i64 K3, .slice A5 p2 c5, .int .i64 (m : Int), .int .i64 O2] 26)).cell? ⟨w3.heap.size, 2, none⟩ = some (.int .i64 (n : Int)) := kA6.cell 2
        have x3 : (w5.alloc (.cells #[.int .i64 K3, .slice A5 p2 c5, .int .i64 (m : Int), .int .i64 O2] 26)).cell? ⟨w3.heap.size, 3, none⟩ = some (.int .i64 O1) := kA6.cell 3
        go_wp2_with fail
        refine (HM.out _ _ _ _ _ (by exact hI36) (by exact hI56)).mono ?_
        rintro e w7 ⟨v, rfl, A7, c7, rfl, hI7, hb7', _⟩
        unfold tvH
        simp only [Hp3.out] at hI7 ⊢
        have hb7 := bnext hb6 hb7'
        have hI8 := hI7.next (one_alloc w7 (.cells #[.int .i64 K3, .slice A7 p3 c7, .int .i64 ((n : Int) + (m : Int)), .int .i64 O3] 26))
        have hb8 := bnext hb7 (one_alloc w7 (.cells #[.int .i64 K3, .slice A7 p3 c7, .int .i64 ((n : Int) + (m : Int)), .int .i64 O3] 26))
        have kM8 : Blk (w7.alloc (.cells #[.int .i64 K3, .slice A7 p3 c7, .int .i64 ((n : Int) + (m : Int)), .int .i64 O3] 26)) w7.heap.size 26 #[.int .i64 K3, .slice A7 p3 c7, .int .i64 ((n : Int) + (m : Int)), .int .i64 O3] := Blk.new _ _ _
        go_wp2_with fail
        refine (H4.out _ _ _ (by exact hI8)).mono ?_
        rintro e w9 ⟨rfl, hb9'⟩
        have hb9 := bnext hb8 hb9'
        go_wp2_with fail
        refine (H2.out _ (by exact h.next hb9)).mono ?_
        rintro e w10 ⟨rfl, hw10⟩
        rw [hw10]
        clear hw10
        go_wp2_with fail
        refine (G2.out _ (by exact h'.next hb9)).mono ?_
        rintro e w11 ⟨rfl, hw11⟩
        rw [hw11]
        clear hw11
        have kb : Blk (w9.alloc (.cells #[.string key] 9)) w9.heap.size 9 #[.string key] := Blk.new _ _ _
        go_wp2_with fail
        refine (long_one _ _ _ _ (by exact kb)).mono ?_
        rw [hd.out]
        rintro e w12 ⟨rfl, hw12⟩
        rw [hw12]
        go_wp2_with fail
        go_ret
        exact R1.mk rfl (bnext hb9 (one_alloc _ _))
      · have ec : countH ⟨K3, L3, (n : Int) + (m : Int), O3⟩ key = (z, 0) := by unfold countH; rw [if_neg hkl, ← hz]
        rw [ec] at H4
        have hd := Lib.hid (decide_eq_false hkl)
        clear ec hz hkl
        go_enter Try.func6, Try.ntmps6
        go_wp2_with fail
        refine (tallies_true _).mono ?_
        rintro e w2 ⟨rfl, hb2⟩
        go_wp2_with fail
        refine (H1.out _ (by exact h.next hb2)).mono ?_
        rintro e w3 ⟨v, rfl, A3, c3, rfl, hI3, hb3'⟩
        unfold tvH
        simp only [Hp1.out] at hI3 ⊢
        have hb3 := bnext hb2 hb3'
        have hI4 := hI3.next (one_alloc w3 (.cells #[.int .i64 K3, .slice A3 p1 c3, .int .i64 (n : Int), .int .i64 O1] 26))
        have hb4 := bnext hb3 (one_alloc w3 (.cells #[.int .i64 K3, .slice A3 p1 c3, .int .i64 (n : Int), .int .i64 O1] 26))
        have kA4 : Blk (w3.alloc (.cells #[.int .i64 K3, .slice A3 p1 c3, .int .i64 (n : Int), .int .i64 O1] 26)) w3.heap.size 26 #[.int .i64 K3, .slice A3 p1 c3, .int .i64 (n : Int), .int .i64 O1] := Blk.new _ _ _
        go_wp2_with fail
        refine (G1.out _ (by exact h'.next hb4)).mono ?_
        rintro e w5 ⟨v, rfl, A5, c5, rfl, hI5, hb5'⟩
        unfold tvH
        simp only [Hp2.out] at hI5 ⊢
        have hb5 := bnext hb4 hb5'
        have kA6 := (kA4.next hb5').next (one_alloc w5 (.cells #[.int .i64 K3, .slice A5 p2 c5, .int .i64 (m : Int), .int .i64 O2] 26))
        have kB6 : Blk (w5.alloc (.cells #[.int .i64 K3, .slice A5 p2 c5, .int .i64 (m : Int), .int .i64 O2] 26)) w5.heap.size 26 #[.int .i64 K3, .slice A5 p2 c5, .int .i64 (m : Int), .int .i64 O2] := Blk.new _ _ _
        have hI36 := (hI4.next hb5').next (one_alloc w5 (.cells #[.int .i64 K3, .slice A5 p2 c5, .int .i64 (m : Int), .int .i64 O2] 26))
        have hI56 := hI5.next (one_alloc w5 (.cells #[.int .i64 K3, .slice A5 p2 c5, .int .i64 (m : Int), .int .i64 O2] 26))
        have hb6 := bnext hb5 (one_alloc w5 (.cells #[.int .i64 K3, .slice A5 p2 c5, .int .i64 (m : Int), .int .i64 O2] 26))
        have x0 : (w5.alloc (.cells #[.int .i64 K3, .slice A5 p2 c5, .int .i64 (m : Int), .int .i64 O2] 26)).cell? ⟨w3.heap.size, 0, none⟩ = some (.int .i64 K3) := kA6.cell 0
        have x1 : (w5.alloc (.cells #[.int .i64 K3, .slice A5 p2 c5, .int .i64 (m : Int), .int .i64 O2] 26)).cell? ⟨w3.heap.size, 1, none⟩ = some (.slice A3 p1 c3) := kA6.cell 1
        have x2 : (w5.alloc (.cells #[.int .i64 K3, .slice A5 p2 c5, .int .i64 (m : Int), .int .i64 O2] 26)).cell? ⟨w3.heap.size, 2, none⟩ = some (.int .i64 (n : Int)) := kA6.cell 2
        have x3 : (w5.alloc (.cells #[.int .i64 K3, .slice A5 p2 c5, .int .i64 (m : Int), .int .i64 O2] 26)).cell? ⟨w3.heap.size, 3, none⟩ = some (.int .i64 O1) := kA6.cell 3
        go_wp2_with fail
        refine (HM.out _ _ _ _ _ (by exact hI36) (by exact hI56)).mono ?_
        rintro e w7 ⟨v, rfl, A7, c7, rfl, hI7, hb7', _⟩
        unfold tvH
        simp only [Hp3.out] at hI7 ⊢
        have hb7 := bnext hb6 hb7'
        have hI8 := hI7.next (one_alloc w7 (.cells #[.int .i64 K3, .slice A7 p3 c7, .int .i64 ((n : Int) + (m : Int)), .int .i64 O3] 26))
        have hb8 := bnext hb7 (one_alloc w7 (.cells #[.int .i64 K3, .slice A7 p3 c7, .int .i64 ((n : Int) + (m : Int)), .int .i64 O3] 26))
        have kM8 : Blk (w7.alloc (.cells #[.int .i64 K3, .slice A7 p3 c7, .int .i64 ((n : Int) + (m : Int)), .int .i64 O3] 26)) w7.heap.size 26 #[.int .i64 K3, .slice A7 p3 c7, .int .i64 ((n : Int) + (m : Int)), .int .i64 O3] := Blk.new _ _ _
        go_wp2_with fail
        refine (H4.out _ _ _ (by exact hI8)).mono ?_
        rintro e w9 ⟨rfl, hb9'⟩
        have hb9 := bnext hb8 hb9'
        have hI9 := hI8.next hb9'
        have kM9 := kM8.next hb9'
        go_wp2_with fail
        refine (H2.out _ (by exact h.next hb9)).mono ?_
        rintro e w10 ⟨rfl, hw10⟩
        rw [hw10]
        clear hw10
        go_wp2_with fail
        refine (G2.out _ (by exact h'.next hb9)).mono ?_
        rintro e w11 ⟨rfl, hw11⟩
        rw [hw11]
        clear hw11
        have kb : Blk (w9.alloc (.cells #[.string key] 9)) w9.heap.size 9 #[.string key] := Blk.new _ _ _
        have hb10 := bnext hb9 (one_alloc w9 (.cells #[.string key] 9))
        have hI10 := hI9.next (one_alloc w9 (.cells #[.string key] 9))
        have kM10 := kM9.next (one_alloc w9 (.cells #[.string key] 9))
        have y0 : (w9.alloc (.cells #[.string key] 9)).cell? ⟨w7.heap.size, 0, none⟩ = some (.int .i64 K3) := kM10.cell 0
        have y1 : (w9.alloc (.cells #[.string key] 9)).cell? ⟨w7.heap.size, 1, none⟩ = some (.slice A7 p3 c7) := kM10.cell 1
        have y2 : (w9.alloc (.cells #[.string key] 9)).cell? ⟨w7.heap.size, 2, none⟩ = some (.int .i64 ((n : Int) + (m : Int))) := kM10.cell 2
        have y3 : (w9.alloc (.cells #[.string key] 9)).cell? ⟨w7.heap.size, 3, none⟩ = some (.int .i64 O3) := kM10.cell 3
        go_wp2_with fail
        refine (long_one _ _ _ _ (by exact kb)).mono ?_
        rw [hd.out]
        rintro e w12 ⟨rfl, hw12⟩
        rw [hw12]
        clear hw12
        go_wp2_with fail
        refine (H5.out _ _ _ (by exact hI10)).mono ?_
        rintro e w13 ⟨rfl, hb13⟩
        go_wp2_with fail
        go_ret
        exact R1.mk rfl (bnext hb10 hb13)
  · have hl2 := hbadAll.out (by
      rcases Decidable.em (e1 = 0) with g | g
      · exact .inr (fun g2 => hee ⟨g, g2⟩)
      · exact .inl g)
    have hde : (decide (e1 = 0) && decide (e2 = 0)) = false := by
      rw [Bool.and_eq_false_iff, decide_eq_false_iff_not, decide_eq_false_iff_not]
      rcases Decidable.em (e1 = 0) with g | g
      · exact .inr (fun g2 => hee ⟨g, g2⟩)
      · exact .inl g
    obtain ⟨b1, hb1⟩ : ∃ b, decide (e1 = 0) = b := ⟨_, rfl⟩
    obtain ⟨b2, hb2⟩ : ∃ b, decide (e2 = 0) = b := ⟨_, rfl⟩
    obtain ⟨x1, hx1⟩ : ∃ b, longB l = b := ⟨_, rfl⟩
    obtain ⟨x2, hx2⟩ : ∃ b, longB l' = b := ⟨_, rfl⟩
    rw [hb1, hb2] at hde
    rw [hx1] at hl2 H3
    rw [hx2] at hl2 G3
    have Hb1 := Lib.hid hb1
    have Hb2 := Lib.hid hb2
    have Hl2 := Lib.hid hl2
    clear hb1 hb2 hx1 hx2 hee hok1 hok2 hbadAll hl2
    go_enter Try.func6, Try.ntmps6
    go_wp2_with fail
    refine (tallies_true _).mono ?_
    rintro e w2 ⟨rfl, hb2⟩
    go_wp2_with fail
    refine (H1.out _ (by exact h.next hb2)).mono ?_
    rintro e w3 ⟨v, rfl, A3, c3, rfl, hI3, hb3'⟩
    unfold tvH
    simp only [Hp1.out, Hb1.out] at hI3 ⊢
    have hb3 := bnext hb2 hb3'
    have hb4 := bnext hb3 (one_alloc w3 (.cells #[.int .i64 K1, .slice A3 p1 c3, .int .i64 N1, .int .i64 O1] 26))
    go_wp2_with fail
    refine (G1.out _ (by exact h'.next hb4)).mono ?_
    rintro e w5 ⟨v, rfl, A5, c5, rfl, hI5, hb5'⟩
    unfold tvH
    simp only [Hp2.out, Hb2.out] at hI5 ⊢
    have hb5 := bnext hb4 hb5'
    have hb6 := bnext hb5 (one_alloc w5 (.cells #[.int .i64 K2, .slice A5 p2 c5, .int .i64 N2, .int .i64 O2] 26))
    clear hI3 hI5
    cases b1 <;> cases b2 <;> first | (exfalso; revert hde; decide; done) | skip
    all_goals
      clear hde
      by_cases g1 : K < 1
      · have d1 := decide_eq_true g1
        go_wp2_with fail
        go_ret
        exact R1.mk rfl hb6
      by_cases g2 : 64 < K
      · have d1 := decide_eq_false g1
        have d2 := decide_eq_true g2
        go_wp2_with fail
        go_ret
        exact R1.mk rfl hb6
      have d1 := decide_eq_false g1
      have d2 := decide_eq_false g2
      have hl3 := Hl2.out.resolve_left (fun g => g.elim g1 g2)
      cases x1
      · cases x2
        · have hl4 := (hl3.resolve_left (by decide)).resolve_left (by decide)
          obtain ⟨d3, hd3⟩ : ∃ b, decide ((1000000000 : Int) < (n : Int)) = b := ⟨_, rfl⟩
          obtain ⟨d4, hd4⟩ : ∃ b, decide ((1000000000 : Int) < (m : Int)) = b := ⟨_, rfl⟩
          rw [hd3, hd4] at hl4
          clear hl3
          cases d3
          · have hl5 := hl4.resolve_left (by decide)
            subst hl5
            clear hl4
            go_wp2_with fail
            refine (H3.out _ (by exact h.next hb6)).mono ?_
            rintro e w6 ⟨rfl, hw6⟩
            rw [hw6]
            clear hw6
            go_wp2_with fail
            refine (G3.out _ (by exact h'.next hb6)).mono ?_
            rintro e w6 ⟨rfl, hw6⟩
            rw [hw6]
            clear hw6
            go_wp2_with fail
            go_ret
            exact R1.mk rfl hb6
          · clear hl4 hd4
            go_wp2_with fail
            refine (H3.out _ (by exact h.next hb6)).mono ?_
            rintro e w6 ⟨rfl, hw6⟩
            rw [hw6]
            clear hw6
            go_wp2_with fail
            refine (G3.out _ (by exact h'.next hb6)).mono ?_
            rintro e w6 ⟨rfl, hw6⟩
            rw [hw6]
            clear hw6
            go_wp2_with fail
            go_ret
            exact R1.mk rfl hb6
        · clear hl3
          go_wp2_with fail
          refine (H3.out _ (by exact h.next hb6)).mono ?_
          rintro e w6 ⟨rfl, hw6⟩
          rw [hw6]
          clear hw6
          go_wp2_with fail
          refine (G3.out _ (by exact h'.next hb6)).mono ?_
          rintro e w6 ⟨rfl, hw6⟩
          rw [hw6]
          clear hw6
          go_wp2_with fail
          go_ret
          exact R1.mk rfl hb6
      · clear hl3
        go_wp2_with fail
        refine (H3.out _ (by exact h.next hb6)).mono ?_
        rintro e w6 ⟨rfl, hw6⟩
        rw [hw6]
        clear hw6
        go_wp2_with fail
        go_ret
        exact R1.mk rfl hb6
end Go.Proofs.Ytnppgocedokioaa
