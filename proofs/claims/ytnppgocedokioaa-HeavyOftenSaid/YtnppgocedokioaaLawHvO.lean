/- The walk of the law HeavyOften: it returns true. Conditions: the arguments fit their kinds. -/
import Derived.Test.YtnppgocedokioaaHvT
namespace Go.Proofs.Ytnppgocedokioaa
open Go.RowKit

set_option maxRecDepth 1000000 in
set_option maxHeartbeats 8000000 in
theorem heavyOften_true (w : World) (K : Int) (hK : -9223372036854775808 ≤ K ∧ K ≤ 9223372036854775807) (A : Option Addr) (c : Nat) (l : List ByteArray) (hs : ∀ s ∈ l, s.size ≤ maxLen) (_ : l.length ≤ c) (_ : c ≤ maxLen) (_ : A = none → c = 0) (h : Has w w.heap.size A (strCs l)) (hr : l.length * 16 ≤ 140737488351232) (key : ByteArray) (hk : key.size ≤ maxLen) :
    Calls Try.prog 4 #[.int .i64 K, .slice A l.length c, .string key] w (R1 (.bool true) (Below w.heap.size w)) := by
  obtain ⟨n, hn⟩ : ∃ n, l.length = n := ⟨_, rfl⟩
  have hnb : n ≤ 17592186044416 := by omega
  have Hn := Lib.hid hn
  have hbadL := fun h => tal_bad (K := K) (l := l) (k := n) (by omega) h
  have hboundL := fun h => often_law (K := K) (l := l) (k := n) h key
  have hokL := fun h => tal_ok (K := K) (l := l) (k := n) h
  have H1 := Lib.hid (fun (w : World) (h : Has w w.heap.size A (strCs l)) => tallied_any K A n c l hn hnb w h)
  have H2 := Lib.hid (fun (w : World) (h : Has w w.heap.size A (strCs l)) => timesH_any A n c l key hn hnb w h)
  have H3 := Lib.hid (fun (w : World) (h : Has w w.heap.size A (strCs l)) => long_any A n c l hn hnb w h)
  have ht0 := timesH_le l key n
  rw [hn]
  rw [hn] at hbadL
  obtain ⟨t, ht⟩ : ∃ t, timesH l key n = t := ⟨_, rfl⟩
  rw [ht] at H2 ht0 hboundL
  obtain ⟨r, hr2⟩ : ∃ r, talH K l n = r := ⟨_, rfl⟩
  rw [hr2] at H1 hbadL hboundL hokL
  obtain ⟨⟨K1, L1, N1, O1⟩, e1⟩ := r
  simp only [] at hbadL hboundL hokL
  clear hn hr hr2 ht
  by_cases he : e1 = 0
  · subst he
    have hb1 := hboundL rfl
    obtain ⟨o1, o2, o3, _⟩ := hokL rfl
    subst o2 o3
    clear hbadL hboundL hokL
    have m1 := o1.k1
    have m2 := o1.k2
    have m4 : (n : Int) ≤ 1000000000 := o1.n1
    simp only [] at m1 m2
    obtain ⟨P, hP⟩ : ∃ P, t * (K1 + 1) = P := ⟨_, rfl⟩
    have p0 : 0 ≤ P := by rw [← hP]; exact Int.mul_nonneg (by omega) (by omega)
    have p1 : P ≤ 65000000000 := by
      rw [← hP]
      have := Int.mul_le_mul (show t ≤ 1000000000 by omega) (show K1 + 1 ≤ 65 by omega) (by omega) (by decide)
      omega
    rw [hP] at hb1
    have hPw : IntKind.i64.wrap (t * (K1 + 1)) = P := by rw [hP]; exact IntWalk.i64_in _ (by omega)
    obtain ⟨z, hz⟩ : ∃ z, lookH L1 key = z := ⟨_, rfl⟩
    rw [hz] at hb1
    obtain ⟨m, hm⟩ : ∃ m, L1.length = m := ⟨_, rfl⟩
    have H4 := Lib.hid (fun (A : Option Addr) (c : Nat) (w : World) (h : HvL w A c L1) => count_any K1 n O1 A m c L1 hm o1 key w h)
    have Hm := Lib.hid hm
    clear hP hm o1
    by_cases hkl : 40 < key.size
    · have ec : countH ⟨K1, L1, n, O1⟩ key = (0, 2) := by unfold countH; rw [if_pos hkl]
      rw [ec] at H4
      have hd := Lib.hid (decide_eq_true hkl)
      clear ec hz hkl
      go_enter Try.func4, Try.ntmps4
      go_wp2_with fail
      refine (tallies_true _).mono ?_
      rintro e w2 ⟨rfl, hb2⟩
      go_wp2_with fail
      refine (H1.out _ (by exact h.next hb2)).mono ?_
      rintro e w3 ⟨v, rfl, A3, c3, rfl, hI, hb3'⟩
      unfold tvH
      simp only [Hm.out] at hI ⊢
      have hb3 := bnext hb2 hb3'
      have hI4 := hI.next (one_alloc w3 (.cells #[.int .i64 K1, .slice A3 m c3, .int .i64 (n : Int), .int .i64 O1] 26))
      have hb4 := bnext hb3 (one_alloc w3 (.cells #[.int .i64 K1, .slice A3 m c3, .int .i64 (n : Int), .int .i64 O1] 26))
      have hk4 : Blk (w3.alloc (.cells #[.int .i64 K1, .slice A3 m c3, .int .i64 (n : Int), .int .i64 O1] 26)) w3.heap.size 26 #[.int .i64 K1, .slice A3 m c3, .int .i64 (n : Int), .int .i64 O1] := Blk.new _ _ _
      go_wp2_with fail
      refine (H4.out _ _ _ (by exact hI4)).mono ?_
      rintro e w5 ⟨rfl, hb5'⟩
      have hb5 := bnext hb4 hb5'
      go_wp2_with fail
      go_ret
      exact R1.mk rfl hb5
    · have ec : countH ⟨K1, L1, n, O1⟩ key = (z, 0) := by unfold countH; rw [if_neg hkl, ← hz]
      rw [ec] at H4
      clear ec hz hkl
      go_enter Try.func4, Try.ntmps4
      go_wp2_with fail
      refine (tallies_true _).mono ?_
      rintro e w2 ⟨rfl, hb2⟩
      go_wp2_with fail
      refine (H1.out _ (by exact h.next hb2)).mono ?_
      rintro e w3 ⟨v, rfl, A3, c3, rfl, hI, hb3'⟩
      unfold tvH
      simp only [Hm.out] at hI ⊢
      have hb3 := bnext hb2 hb3'
      have hI4 := hI.next (one_alloc w3 (.cells #[.int .i64 K1, .slice A3 m c3, .int .i64 (n : Int), .int .i64 O1] 26))
      have hb4 := bnext hb3 (one_alloc w3 (.cells #[.int .i64 K1, .slice A3 m c3, .int .i64 (n : Int), .int .i64 O1] 26))
      have hk4 : Blk (w3.alloc (.cells #[.int .i64 K1, .slice A3 m c3, .int .i64 (n : Int), .int .i64 O1] 26)) w3.heap.size 26 #[.int .i64 K1, .slice A3 m c3, .int .i64 (n : Int), .int .i64 O1] := Blk.new _ _ _
      go_wp2_with fail
      refine (H4.out _ _ _ (by exact hI4)).mono ?_
      rintro e w5 ⟨rfl, hb5'⟩
      have hb5 := bnext hb4 hb5'
      by_cases hg : P ≤ (n : Int)
      · have d1 := decide_eq_true hg
        go_wp2_with fail
        refine (H2.out _ (by exact h.next hb5)).mono ?_
        rintro e w6 ⟨rfl, hw6⟩
        rw [hw6]
        clear hw6
        go_wp2_with fail
        go_ret
        exact R1.mk rfl hb5
      · have d1 := decide_eq_false hg
        have d2 := decide_eq_true (hb1.resolve_left hg)
        go_wp2_with fail
        refine (H2.out _ (by exact h.next hb5)).mono ?_
        rintro e w6 ⟨rfl, hw6⟩
        rw [hw6]
        clear hw6
        go_wp2_with fail
        go_ret
        exact R1.mk rfl hb5
  · have hbad := hbadL he
    clear hbadL hboundL hokL
    have hd : decide (e1 = 0) = false := decide_eq_false he
    have hlong := Lib.hid (show (K < 1 ∨ 64 < K) ∨ longB l = true ∨ decide ((1000000000 : Int) < (n : Int)) = true by
      rcases hbad with g | g | ⟨x, hx, g⟩ | g
      · exact .inl (.inl g)
      · exact .inl (.inr g)
      · exact .inr (.inl (List.any_eq_true.2 ⟨x, hx, decide_eq_true g⟩))
      · exact .inr (.inr (decide_eq_true g)))
    clear hbad he
    go_enter Try.func4, Try.ntmps4
    go_wp2_with fail
    refine (tallies_true _).mono ?_
    rintro e w2 ⟨rfl, hb2⟩
    go_wp2_with fail
    refine (H1.out _ (by exact h.next hb2)).mono ?_
    rintro e w3 ⟨v, rfl, A3, c3, rfl, hI, hb3'⟩
    unfold tvH
    simp only [hd] at hI ⊢
    have hb3 := bnext hb2 hb3'
    have hb4 := bnext hb3 (one_alloc w3 (.cells #[.int .i64 K1, .slice A3 L1.length c3, .int .i64 N1, .int .i64 O1] 26))
    obtain ⟨m, hm⟩ : ∃ m, L1.length = m := ⟨_, rfl⟩
    rw [hm] at hb4 ⊢
    clear hI hm
    by_cases g1 : K < 1
    · have d1 := decide_eq_true g1
      go_wp2_with fail
      go_ret
      exact R1.mk rfl hb4
    by_cases g2 : 64 < K
    · have d1 := decide_eq_false g1
      have d2 := decide_eq_true g2
      go_wp2_with fail
      go_ret
      exact R1.mk rfl hb4
    have d1 := decide_eq_false g1
    have d2 := decide_eq_false g2
    have hl2 := hlong.out.resolve_left (fun g => g.elim g1 g2)
    obtain ⟨b, hb⟩ : ∃ b, longB l = b := ⟨_, rfl⟩
    rw [hb] at hl2 H3
    clear hlong hb
    cases b
    · have d3 := hl2.resolve_left (by decide)
      clear hl2
      go_wp2_with fail
      refine (H3.out _ (by exact h.next hb4)).mono ?_
      rintro e w6 ⟨rfl, hw6⟩
      rw [hw6]
      clear hw6
      go_wp2_with fail
      go_ret
      exact R1.mk rfl hb4
    · clear hl2
      go_wp2_with fail
      refine (H3.out _ (by exact h.next hb4)).mono ?_
      rintro e w6 ⟨rfl, hw6⟩
      rw [hw6]
      clear hw6
      go_wp2_with fail
      go_ret
      exact R1.mk rfl hb4
end Go.Proofs.Ytnppgocedokioaa
