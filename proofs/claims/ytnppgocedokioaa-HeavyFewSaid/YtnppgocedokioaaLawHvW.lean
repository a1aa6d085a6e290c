/- The walk of the law HeavyFew: it returns true. Conditions: the arguments fit their kinds. -/
import Derived.Test.YtnppgocedokioaaHvT
import Derived.Test.YtnppgocedokioaaSortS
namespace Go.Proofs.Ytnppgocedokioaa
open Go.RowKit Go.Sort

set_option maxRecDepth 1000000 in
set_option maxHeartbeats 8000000 in
theorem heavyFew_true (w : World) (K : Int) (hK : -9223372036854775808 ≤ K ∧ K ≤ 9223372036854775807) (A : Option Addr) (c : Nat) (l : List ByteArray) (_ : ∀ s ∈ l, s.size ≤ maxLen) (hlc : l.length ≤ c) (_ : c ≤ maxLen) (hnil : A = none → c = 0) (h : Has w w.heap.size A (strCs l)) (hr : l.length * 16 ≤ 140737488351232) (key : ByteArray) (_ : key.size ≤ maxLen) :
    Calls Try.prog 5 #[.int .i64 K, .slice A l.length c, .string key] w (R1 (.bool true) (Below w.heap.size w)) := by
  obtain ⟨n, hn⟩ : ∃ n, l.length = n := ⟨_, rfl⟩
  have hnb : n ≤ 17592186044416 := by omega
  have Hn := Lib.hid hn
  have hbadL := fun h => tal_bad (K := K) (l := l) (k := n) (by omega) h
  have hboundL := fun h => bound_law (K := K) (l := l) (k := n) h key
  have hokL := fun h => tal_ok (K := K) (l := l) (k := n) h
  have hfewL := fun hd h => (few_law (K := K) (l := l) (D := unlikeS l) (fun x hx => unlikeS_mem hx) hd (k := n) (by omega) h).1
  have H1 := Lib.hid (fun (w : World) (h : Has w w.heap.size A (strCs l)) => tallied_any K A n c l hn hnb w h)
  have H2 := Lib.hid (fun (w : World) (h : Has w w.heap.size A (strCs l)) => timesH_any A n c l key hn hnb w h)
  have H3 := Lib.hid (fun (w : World) (h : Has w w.heap.size A (strCs l)) => long_any A n c l hn hnb w h)
  have H6 := Lib.hid (fun (w : World) (h : Has w w.heap.size A (strCs l)) => cloneS_any A n c (strCs l) (by rw [strCs_len, hn, Nat.mul_one]) (strCs_one l) (fun e => by have := hnil e; omega) (by omega) w h)
  have H7 := Lib.hid (fun (base c : Nat) (A : Option Addr) (w : World) (h : w.ownsRow base 9 1 (.slice A n c) n (strCs l)) => sortS_any l hn hnb w h)
  have H8 := Lib.hid (fun (base c : Nat) (A : Option Addr) (w : World) (h : w.ownsRow base 9 1 (.slice A n c) n ((sortS l).map encStr)) => compactS_any (sortS l) (by rw [sortS_len]; exact hn) hnb w h)
  have ht0 := timesH_le l key n
  rw [unlikeS_len] at hfewL
  obtain ⟨D, hD⟩ : ∃ D, (Lib.compact (sortS l)).length = D := ⟨_, rfl⟩
  rw [hD] at H8 hfewL
  rw [hn]
  rw [hn] at hbadL
  obtain ⟨t, ht⟩ : ∃ t, timesH l key n = t := ⟨_, rfl⟩
  rw [ht] at H2 ht0 hboundL
  obtain ⟨r, hr2⟩ : ∃ r, talH K l n = r := ⟨_, rfl⟩
  rw [hr2] at H1 hbadL hboundL hokL hfewL
  obtain ⟨⟨K1, L1, N1, O1⟩, e1⟩ := r
  simp only [] at hbadL hboundL hokL hfewL
  clear hn hr hr2 ht hD
  by_cases he : e1 = 0
  · subst he
    obtain ⟨b1, b2, b3, b4⟩ := hboundL rfl
    obtain ⟨o1, o2, o3, _⟩ := hokL rfl
    have hfew := fun hd => hfewL hd rfl
    subst b4 o2
    clear hbadL hboundL hokL o3 hfewL b3
    have m1 := o1.k1
    have m2 := o1.k2
    have m3 := o1.off
    simp only [] at m1 m2 m3
    obtain ⟨z, hz⟩ : ∃ z, lookH L1 key = z := ⟨_, rfl⟩
    rw [hz] at b1 b2
    obtain ⟨m, hm⟩ : ∃ m, L1.length = m := ⟨_, rfl⟩
    have H4 := Lib.hid (fun (A : Option Addr) (c : Nat) (w : World) (h : HvL w A c L1) => count_any K1 n O1 A m c L1 hm o1 key w h)
    have Hm := Lib.hid hm
    clear hm o1
    have d0 : ∀ (w : World) (A : Option Addr) (c : Nat), True := fun _ _ _ => trivial
    by_cases hDK : K1 < (D : Int)
    · clear hfew hz
      go_enter Try.func5, Try.ntmps5
      go_wp2_with fail
      refine (tallies_true _).mono ?_
      rintro e w2 ⟨rfl, hb2⟩
      go_wp2_with fail
      refine (H1.out _ (by exact h.next hb2)).mono ?_
      rintro e w3 ⟨v, rfl, A3, c3, rfl, hI, hb3'⟩
      unfold tvH
      simp only [Hm.out] at hI ⊢
      have hb3 := bnext hb2 hb3'
      have hI4 := hI.next (one_alloc w3 (.cells #[.int .i64 K1, .slice A3 m c3, .int .i64 (n : Int), .int .i64 O1] 26))
      have hb4 := bnext hb3 (one_alloc w3 (.cells #[.int .i64 K1, .slice A3 m c3, .int .i64 (n : Int), .int .i64 O1] 26))
      have hk4 : Blk (w3.alloc (.cells #[.int .i64 K1, .slice A3 m c3, .int .i64 (n : Int), .int .i64 O1] 26)) w3.heap.size 26 #[.int .i64 K1, .slice A3 m c3, .int .i64 (n : Int), .int .i64 O1] := Blk.new _ _ _
      go_wp2_with fail
      refine (H6.out _ (by exact h.next hb4)).mono ?_
      rintro e w5 ⟨v, rfl, A5, c5, rfl, ho5, hb5'⟩
      have hob5 := fun k hk => own_blockM ho5 k hk
      have hs45 := hb5'.size
      go_wp2_with fail
      refine (H7.out _ _ _ _ ho5).mono ?_
      rintro e w6 ⟨rfl, ho6, hg6⟩
      have hb6' := hb5'.grown hg6 hs45 (fun k hk => (hob5 k hk).1)
      have hob6 := fun k hk => own_blockM ho6 k hk
      have hs46 := hb6'.size
      go_wp2_with fail
      refine (H8.out _ _ _ _ ho6).mono ?_
      rintro e w7 ⟨v, rfl, rfl, hg7⟩
      have hb7' := hb6'.grown hg7 hs46 (fun k hk => (hob6 k hk).1)
      have hb7 := bnext hb4 hb7'
      have hk7 := hk4.next hb7'
      have hI7 := hI4.next hb7'
      have p0 : w7.cell? ⟨w3.heap.size, 0, none⟩ = some (.int .i64 K1) := hk7.cell 0
      have p1 : w7.cell? ⟨w3.heap.size, 1, none⟩ = some (.slice A3 m c3) := hk7.cell 1
      have p2 : w7.cell? ⟨w3.heap.size, 2, none⟩ = some (.int .i64 (n : Int)) := hk7.cell 2
      have p3 : w7.cell? ⟨w3.heap.size, 3, none⟩ = some (.int .i64 O1) := hk7.cell 3
      go_wp2_with fail
      go_ret
      exact R1.mk rfl hb7
    · have hO := hfew (by omega)
      subst hO
      have hzt : z = t := by omega
      subst hzt
      clear hfew
      have dd : ¬ (K1 < (D : Int)) := hDK
      by_cases hkl : 40 < key.size
      · have ec : countH ⟨K1, L1, n, 0⟩ key = (0, 2) := by unfold countH; rw [if_pos hkl]
        rw [ec] at H4
        clear ec hz hkl
        go_enter Try.func5, Try.ntmps5
        go_wp2_with fail
        refine (tallies_true _).mono ?_
        rintro e w2 ⟨rfl, hb2⟩
        go_wp2_with fail
        refine (H1.out _ (by exact h.next hb2)).mono ?_
        rintro e w3 ⟨v, rfl, A3, c3, rfl, hI, hb3'⟩
        unfold tvH
        simp only [Hm.out] at hI ⊢
        have hb3 := bnext hb2 hb3'
        have hI4 := hI.next (one_alloc w3 (.cells #[.int .i64 K1, .slice A3 m c3, .int .i64 (n : Int), .int .i64 0] 26))
        have hb4 := bnext hb3 (one_alloc w3 (.cells #[.int .i64 K1, .slice A3 m c3, .int .i64 (n : Int), .int .i64 0] 26))
        have hk4 : Blk (w3.alloc (.cells #[.int .i64 K1, .slice A3 m c3, .int .i64 (n : Int), .int .i64 0] 26)) w3.heap.size 26 #[.int .i64 K1, .slice A3 m c3, .int .i64 (n : Int), .int .i64 0] := Blk.new _ _ _
        go_wp2_with fail
        refine (H6.out _ (by exact h.next hb4)).mono ?_
        rintro e w5 ⟨v, rfl, A5, c5, rfl, ho5, hb5'⟩
        have hob5 := fun k hk => own_blockM ho5 k hk
        have hs45 := hb5'.size
        go_wp2_with fail
        refine (H7.out _ _ _ _ ho5).mono ?_
        rintro e w6 ⟨rfl, ho6, hg6⟩
        have hb6' := hb5'.grown hg6 hs45 (fun k hk => (hob5 k hk).1)
        have hob6 := fun k hk => own_blockM ho6 k hk
        have hs46 := hb6'.size
        go_wp2_with fail
        refine (H8.out _ _ _ _ ho6).mono ?_
        rintro e w7 ⟨v, rfl, rfl, hg7⟩
        have hb7' := hb6'.grown hg7 hs46 (fun k hk => (hob6 k hk).1)
        have hb7 := bnext hb4 hb7'
        have hk7 := hk4.next hb7'
        have hI7 := hI4.next hb7'
        have p0 : w7.cell? ⟨w3.heap.size, 0, none⟩ = some (.int .i64 K1) := hk7.cell 0
        have p1 : w7.cell? ⟨w3.heap.size, 1, none⟩ = some (.slice A3 m c3) := hk7.cell 1
        have p2 : w7.cell? ⟨w3.heap.size, 2, none⟩ = some (.int .i64 (n : Int)) := hk7.cell 2
        have p3 : w7.cell? ⟨w3.heap.size, 3, none⟩ = some (.int .i64 0) := hk7.cell 3
        go_wp2_with fail
        refine (H4.out _ _ _ (by exact hI7)).mono ?_
        rintro e w9 ⟨rfl, hb9'⟩
        have hb9 := bnext hb7 hb9'
        have hk9 := hk7.next hb9'
        have p3 : w9.cell? ⟨w3.heap.size, 3, none⟩ = some (.int .i64 0) := hk9.cell 3
        go_wp2_with fail
        go_ret
        exact R1.mk rfl hb9
      · have ec : countH ⟨K1, L1, n, 0⟩ key = (z, 0) := by unfold countH; rw [if_neg hkl, ← hz]
        rw [ec] at H4
        clear ec hz hkl
        go_enter Try.func5, Try.ntmps5
        go_wp2_with fail
        refine (tallies_true _).mono ?_
        rintro e w2 ⟨rfl, hb2⟩
        go_wp2_with fail
        refine (H1.out _ (by exact h.next hb2)).mono ?_
        rintro e w3 ⟨v, rfl, A3, c3, rfl, hI, hb3'⟩
        unfold tvH
        simp only [Hm.out] at hI ⊢
        have hb3 := bnext hb2 hb3'
        have hI4 := hI.next (one_alloc w3 (.cells #[.int .i64 K1, .slice A3 m c3, .int .i64 (n : Int), .int .i64 0] 26))
        have hb4 := bnext hb3 (one_alloc w3 (.cells #[.int .i64 K1, .slice A3 m c3, .int .i64 (n : Int), .int .i64 0] 26))
        have hk4 : Blk (w3.alloc (.cells #[.int .i64 K1, .slice A3 m c3, .int .i64 (n : Int), .int .i64 0] 26)) w3.heap.size 26 #[.int .i64 K1, .slice A3 m c3, .int .i64 (n : Int), .int .i64 0] := Blk.new _ _ _
        go_wp2_with fail
        refine (H6.out _ (by exact h.next hb4)).mono ?_
        rintro e w5 ⟨v, rfl, A5, c5, rfl, ho5, hb5'⟩
        have hob5 := fun k hk => own_blockM ho5 k hk
        have hs45 := hb5'.size
        go_wp2_with fail
        refine (H7.out _ _ _ _ ho5).mono ?_
        rintro e w6 ⟨rfl, ho6, hg6⟩
        have hb6' := hb5'.grown hg6 hs45 (fun k hk => (hob5 k hk).1)
        have hob6 := fun k hk => own_blockM ho6 k hk
        have hs46 := hb6'.size
        go_wp2_with fail
        refine (H8.out _ _ _ _ ho6).mono ?_
        rintro e w7 ⟨v, rfl, rfl, hg7⟩
        have hb7' := hb6'.grown hg7 hs46 (fun k hk => (hob6 k hk).1)
        have hb7 := bnext hb4 hb7'
        have hk7 := hk4.next hb7'
        have hI7 := hI4.next hb7'
        have p0 : w7.cell? ⟨w3.heap.size, 0, none⟩ = some (.int .i64 K1) := hk7.cell 0
        have p1 : w7.cell? ⟨w3.heap.size, 1, none⟩ = some (.slice A3 m c3) := hk7.cell 1
        have p2 : w7.cell? ⟨w3.heap.size, 2, none⟩ = some (.int .i64 (n : Int)) := hk7.cell 2
        have p3 : w7.cell? ⟨w3.heap.size, 3, none⟩ = some (.int .i64 0) := hk7.cell 3
        go_wp2_with fail
        refine (H4.out _ _ _ (by exact hI7)).mono ?_
        rintro e w9 ⟨rfl, hb9'⟩
        have hb9 := bnext hb7 hb9'
        have hk9 := hk7.next hb9'
        have p3 : w9.cell? ⟨w3.heap.size, 3, none⟩ = some (.int .i64 0) := hk9.cell 3
        go_wp2_with fail
        refine (H2.out _ (by exact h.next hb9)).mono ?_
        rintro e w10 ⟨rfl, hw10⟩
        rw [hw10]
        clear hw10
        go_wp2_with fail
        go_ret
        exact R1.mk rfl hb9
  · have hbad := hbadL he
    clear hbadL hboundL hokL hfewL
    have hd : decide (e1 = 0) = false := decide_eq_false he
    have hlong := Lib.hid (show (K < 1 ∨ 64 < K) ∨ longB l = true ∨ decide ((1000000000 : Int) < (n : Int)) = true by
      rcases hbad with g | g | ⟨x, hx, g⟩ | g
      · exact .inl (.inl g)
      · exact .inl (.inr g)
      · exact .inr (.inl (List.any_eq_true.2 ⟨x, hx, decide_eq_true g⟩))
      · exact .inr (.inr (decide_eq_true g)))
    clear hbad he
    go_enter Try.func5, Try.ntmps5
    go_wp2_with fail
    refine (tallies_true _).mono ?_
    rintro e w2 ⟨rfl, hb2⟩
    go_wp2_with fail
    refine (H1.out _ (by exact h.next hb2)).mono ?_
    rintro e w3 ⟨v, rfl, A3, c3, rfl, hI, hb3'⟩
    unfold tvH
    simp only [hd] at hI ⊢
    have hb3 := bnext hb2 hb3'
    have hb4 := bnext hb3 (one_alloc w3 (.cells #[.int .i64 K1, .slice A3 L1.length c3, .int .i64 N1, .int .i64 O1] 26))
    obtain ⟨m, hm⟩ : ∃ m, L1.length = m := ⟨_, rfl⟩
    rw [hm] at hb4 ⊢
    clear hI hm
    by_cases g1 : K < 1
    · have d1 := decide_eq_true g1
      go_wp2_with fail
      go_ret
      exact R1.mk rfl hb4
    by_cases g2 : 64 < K
    · have d1 := decide_eq_false g1
      have d2 := decide_eq_true g2
      go_wp2_with fail
      go_ret
      exact R1.mk rfl hb4
    have d1 := decide_eq_false g1
    have d2 := decide_eq_false g2
    have hl2 := hlong.out.resolve_left (fun g => g.elim g1 g2)
    obtain ⟨b, hb⟩ : ∃ b, longB l = b := ⟨_, rfl⟩
    rw [hb] at hl2 H3
    clear hlong hb
    cases b
    · have d3 := hl2.resolve_left (by decide)
      clear hl2
      go_wp2_with fail
      refine (H3.out _ (by exact h.next hb4)).mono ?_
      rintro e w6 ⟨rfl, hw6⟩
      rw [hw6]
      clear hw6
      go_wp2_with fail
      go_ret
      exact R1.mk rfl hb4
    · clear hl2
      go_wp2_with fail
      refine (H3.out _ (by exact h.next hb4)).mono ?_
      rintro e w6 ⟨rfl, hw6⟩
      rw [hw6]
      clear hw6
      go_wp2_with fail
      go_ret
      exact R1.mk rfl hb4
end Go.Proofs.Ytnppgocedokioaa
