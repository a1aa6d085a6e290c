/- The walk of the law DeltaSteady: it returns true. Conditions: the arguments fit their kinds; the table of widths lies in its cells. -/
import Derived.Test.YtkcfhfplppdnnaaDoorLawDeltaM
namespace Go.Proofs.YtkcfhfplppdnnaaDoor
open Go.RowKit

def stdF (t s : Int) (i : Nat) : Int := wrap64 (t + wrap64 ((i : Int) * s))
def stdL (t s : Int) (n : Nat) : List Int := (List.range n).map (stdF t s)
theorem stdL_len (t s : Int) (n : Nat) : (stdL t s n).length = n := by simp [stdL]
theorem stdL_at {t s : Int} {n i : Nat} (h : i < n) : at_ (stdL t s n) i = stdF t s i := by
  rw [at_eq (by rw [stdL_len]; exact h)]
  simp [stdL]
theorem stdL_snoc (t s : Int) (n : Nat) : stdL t s (n + 1) = stdL t s n ++ [stdF t s n] := by simp [stdL, List.range_succ]
theorem std_sub (t s : Int) (i : Nat) : wrap64 (stdF t s (i + 1) - stdF t s i) = wrap64 s := by
  have e : ((i + 1 : Nat) : Int) * s = (i : Int) * s + s := by rw [Int.natCast_add, Int.add_mul]; simp
  unfold stdF
  rw [e]
  obtain ⟨p, hp⟩ : ∃ p, (i : Int) * s = p := ⟨_, rfl⟩
  rw [hp]
  unfold wrap64; omega
theorem std_len {t s : Int} {n : Nat} (h : 2 ≤ n) : ∀ k, 2 ≤ k → k ≤ n → (packF ((stdL t s n).take k)).length = (packF ((stdL t s n).take 2)).length + (k - 2) := by
  intro k h2 hk
  induction k with
  | zero => omega
  | succ k ih =>
    rcases (show k + 1 = 2 ∨ 2 ≤ k by omega) with h3 | h3
    · rw [h3]; simp
    · have hz : chgOf (lastOf (stdL t s n) k) (stepOf (stdL t s n) k) (at_ (stdL t s n) k) = 0 := by
        unfold chgOf lastOf stepOf
        rw [if_neg (by omega), if_neg (by omega), stdL_at (by omega), stdL_at (by omega), stdL_at (by omega)]
        have e1 := std_sub t s (k - 1)
        have e2 := std_sub t s (k - 2)
        rw [show k - 1 + 1 = k by omega] at e1
        rw [show k - 2 + 1 = k - 1 by omega] at e2
        rw [e1, e2, Int.sub_self]
        unfold wrap64; omega
      rw [packT_step (by rw [stdL_len]; omega) (by omega), hz, List.length_append, ih h3 (by omega)]
      have : (chg 0).length = 1 := by decide
      omega
theorem std_pack {t s : Int} {n : Nat} (h : 2 ≤ n) (hn : n ≤ 100) : ∃ (x y : List Nat) (N M : Int), packN (stdL t s n) = ((x, N), 0) ∧ packN ((stdL t s n).take 2) = ((y, M), 0) ∧ N = M + (n : Int) - 2 ∧ 0 ≤ M ∧ M ≤ 1000 := by
  have hl := std_len (t := t) (s := s) h n h (Nat.le_refl _)
  have e1 : (stdL t s n).take n = stdL t s n := List.take_of_length_le (by rw [stdL_len]; exact Nat.le_refl _)
  rw [e1] at hl
  have h2 : ((stdL t s n).take 2).length = 2 := by rw [List.length_take, stdL_len]; omega
  refine ⟨packB (packT (stdL t s n)), packB (packT ((stdL t s n).take 2)), ((packT (stdL t s n)).length : Int), ((packT ((stdL t s n).take 2)).length : Int), ?_, ?_, ?_, ?_, ?_⟩
  · unfold packN
    rw [if_neg (by rw [stdL_len]; omega)]
  · unfold packN
    rw [if_neg (by rw [h2]; omega)]
  · show ((packT (stdL t s n)).length : Int) = ((packT ((stdL t s n).take 2)).length : Int) + (n : Int) - 2
    unfold packT
    rw [List.length_append, List.length_append, toB_len, toB_len, hl]
    omega
  · omega
  · have := packF_len ((stdL t s n).take 2)
    unfold packT
    rw [List.length_append, toB_len]
    omega

theorem takeI64 {w : World} {B : Nat} {A : Option Addr} {l : List Int} (h : Has w B A (i64s l)) (k : Nat) : Has w B A (i64s (l.take k)) := by
  have e : i64s (l.take k) = (i64s l).take k := by simp [i64s, List.map_take]
  rw [e]
  exact h.take k

set_option maxRecDepth 1000000 in
set_option maxHeartbeats 4000000 in
theorem deltaSteady_true (w : World) (t : Int) (htb : -9223372036854775808 ≤ t ∧ t ≤ 9223372036854775807) (s : Int) (hsb : -9223372036854775808 ≤ s ∧ s ≤ 9223372036854775807) (n : Int) (hnb : -9223372036854775808 ≤ n ∧ n ≤ 9223372036854775807) (ht : TabAt w) (hw0 : 0 < w.heap.size) :
    Calls Tryd.prog 4 #[.int .i64 t, .int .i64 s, .int .i64 n] w (R1 (.bool true) (Below w.heap.size w)) := by
  rcases (show n < 2 ∨ (2 ≤ n ∧ 100 < n) ∨ (2 ≤ n ∧ n ≤ 100) by omega) with h1 | ⟨h1, h2⟩ | ⟨h1, h2⟩
  all_goals try (
    go_enter Tryd.func4, Tryd.ntmps4
    go_wp2_with fail
    refine (deltas_true _ ht hw0).mono ?_
    rintro e w1 ⟨rfl, hb1⟩
    go_wp2_with fail
    go_ret
    exact R1.mk rfl hb1)
  obtain ⟨n, rfl⟩ := Int.eq_ofNat_of_zero_le (show 0 ≤ n by omega)
  obtain ⟨x, y, N, M, hx, hy, hNM, hM0, hM1⟩ := std_pack (t := t) (s := s) (n := n) (by omega) (by omega)
  have Hx := Lib.hid hx; clear hx
  have Hy := Lib.hid hy; clear hy
  have HN := Lib.hid hNM
  have hN1 : N ≤ 2000 := by omega
  have hN0 : 0 ≤ N := by omega
  clear hNM
  have hI : I64s (stdL t s n) := by
    intro x hx
    simp only [stdL, List.mem_map] at hx
    obtain ⟨i, _, rfl⟩ := hx
    unfold stdF wrap64; omega
  have hI2 := Lib.hid (show I64s ((stdL t s n).take 2) from fun x hx => hI x (List.mem_of_mem_take hx))
  have hI := Lib.hid hI
  go_enter Tryd.func4, Tryd.ntmps4
  go_wp2_with fail
  refine (deltas_true _ ht hw0).mono ?_
  rintro e w1 ⟨rfl, hb1⟩
  have HT1 := Lib.hid (ht.below hw0 hb1); clear ht
  go_wp2_with fail
  go_loopw [7, 22] (fun v i wr => ∃ (k : Nat) (O : Option Addr) (e : Nat), k ≤ n ∧ i = .int .i64 (k : Nat) ∧ v = .slice O k e ∧ wr.ownsRow w1.heap.size 2 1 (.slice O k e) k (i64s (stdL t s k)) ∧ Below w1.heap.size w1 wr) (fun _ i _ => n + 5 - (intOf i).toNat)
  case atStart => exact ⟨0, none, 0, by omega, rfl, rfl, ⟨rfl, .inl ⟨rfl, rfl⟩⟩, Below.refl _ _⟩
  case round =>
    obtain ⟨k, O, e, hk, rfl, rfl, hown, hbr⟩ := hrel
    have hbs := hbr.size
    by_cases hlt : (k : Int) < (n : Int)
    · have hst := Lib.hid (stdL_snoc t s k)
      go_wp2_with (at_builtin; refine wpList_append1 rfl _ _ _ rfl elI64 rfl hown rfl rfl rfl ?_ ?k1 ?k2 ?k3 ?k4; intro A2 e2 w3 hown3 hgrow hb3)
      case k1 => first | rfl | (intro u hu; simp at hu; subst hu; rfl)
      case k2 => omega
      case k3 => unfold maxLen; omega
      case k4 => omega
      have hown3 := Lib.hid hown3
      go_roundw
      case rel => exact ⟨k + 1, A2, e2, by omega, by go_num, rfl, by rw [hst.out, i64s_app1]; exact hown3.out, hbr.trans hb3⟩
      case measure => simp [intOf]; omega
    · obtain rfl : k = n := by omega
      obtain ⟨hke, hem⟩ := own_len hown
      have hm := Lib.hid (Has.of_own hown); clear hown
      have HT2 := Lib.hid (HT1.out.below (Nat.lt_of_lt_of_le hw0 hb1.size) hbr)
      have hwr0 : 0 < wr.heap.size := Nat.lt_of_lt_of_le (Nat.lt_of_lt_of_le hw0 hb1.size) hbs
      have hb2 := bnext hb1 hbr
      have hn2 : (2 : Int) ≤ (e : Int) := by omega
      go_wp2_with fail
      refine (dpack_any' O _ e (stdL t s k) _ Hx.out (stdL_len _ _ _) (by rw [stdL_len]; unfold maxLen; omega) hI.out _ (by exact hm.out) (by exact HT2.out) hwr0).mono ?_
      rintro e w4 ⟨v, rfl, A4, c4, rfl, ho4, hb4⟩
      clear ho4
      have hm4 := Lib.hid (Has.allocA (hm.out.next hb4) (.cells #[.slice A4 x.length c4, .int .i64 N] 26))
      have hb5 : Below w.heap.size w (w4.alloc (.cells #[.slice A4 x.length c4, .int .i64 N] 26)) := (bnext hb2 hb4).alloc (Nat.le_trans hb2.size hb4.size) _
      have hk5 : Blk (w4.alloc (.cells #[.slice A4 x.length c4, .int .i64 N] 26)) w4.heap.size 26 #[.slice A4 x.length c4, .int .i64 N] := Blk.new _ _ _
      have HT5 := Lib.hid (HT2.out.below hwr0 (hb4.alloc hb4.size (.cells #[.slice A4 x.length c4, .int .i64 N] 26)))
      have hL2 := Lib.hid (takeI64 hm4.out 2)
      have hl2 := Lib.hid (show ((stdL t s k).take 2).length = 2 by rw [List.length_take, stdL_len]; omega)
      generalize (stdL t s k).take 2 = L2 at hL2 Hy hI2 hl2
      go_wp2_with fail
      refine (dpack_any' O _ _ L2 _ Hy.out hl2.out (by rw [hl2.out]; unfold maxLen; omega) hI2.out _ (by exact hL2.out) (by exact HT5.out) (by simp)).mono ?_
      rintro e w6 ⟨v, rfl, A6, c6, rfl, ho6, hb6⟩
      clear ho6
      have hk6 := (hk5.next hb6).alloc (.cells #[.slice A6 y.length c6, .int .i64 M] 26)
      have hb7 := bnext hb5 hb6
      have hb8 := hb7.alloc hb7.size (.cells #[.slice A6 y.length c6, .int .i64 M] 26)
      have hk7 : Blk (w6.alloc (.cells #[.slice A6 y.length c6, .int .i64 M] 26)) w6.heap.size 26 #[.slice A6 y.length c6, .int .i64 M] := Blk.new _ _ _
      go_wp2_with fail
      have hs8 : (w6.alloc (.cells #[.slice A6 y.length c6, .int .i64 M] 26)).heap.size = w6.heap.size + 1 := by simp
      generalize w6.alloc (.cells #[.slice A6 y.length c6, .int .i64 M] 26) = w8 at hk6 hk7 hb8 hs8 ⊢
      rw [← hs8]
      clear hs8
      refine (good_any _ 2 _ [0, 0] rfl (by decide) _ (Has.fresh w8 #[.int .i64 0, .int .i64 0] _)).mono ?_
      rintro e w9 ⟨rfl, n9, rfl⟩
      have x1 : ((w8.alloc (.cells #[.int .i64 0, .int .i64 0] 27)).drewN n9).cell? ⟨w4.heap.size, 1, none⟩ = some (.int .i64 N) := ((hk6.alloc _).drewN n9).cell 1
      have x2 : ((w8.alloc (.cells #[.int .i64 0, .int .i64 0] 27)).drewN n9).cell? ⟨w6.heap.size, 1, none⟩ = some (.int .i64 M) := ((hk7.alloc _).drewN n9).cell 1
      go_wp2_with fail
      trace_state
      go_ret
      exact R1.mk (bool_eq (by rw [beq_iff_eq]; exact HN.out)) (below_drewN (hb8.alloc hb8.size _) _)
end Go.Proofs.YtkcfhfplppdnnaaDoor
