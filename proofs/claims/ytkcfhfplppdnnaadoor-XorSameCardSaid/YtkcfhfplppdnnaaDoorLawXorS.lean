/- The walk of the law XorSame: it returns true. Conditions: the arguments fit their kinds; the table of de Bruijn lies in its cells. -/
import Derived.Test.YtkcfhfplppdnnaaDoorUnpackX
import Derived.Test.YtkcfhfplppdnnaaDoorRepeat
namespace Go.Proofs.YtkcfhfplppdnnaaDoor
open Go.RowKit

set_option maxRecDepth 1000000 in
set_option maxHeartbeats 4000000 in
theorem xorSame_true (w : World) (v : Nat) (hv : v < 18446744073709551616) (n : Int) (hn : -9223372036854775808 ≤ n ∧ n ≤ 9223372036854775807) (ht : DebAt w) (hw0 : 1 < w.heap.size) :
    Calls Tryd.prog 8 #[.int .u64 v, .int .i64 n] w (R1 (.bool true) (Below w.heap.size w)) := by
  rcases (show n < 1 ∨ (1 ≤ n ∧ 100 < n) ∨ (1 ≤ n ∧ n ≤ 100) by omega) with h1 | ⟨h1, h2⟩ | ⟨h1, h2⟩
  all_goals try (
    go_enter Tryd.func8, Tryd.ntmps8
    go_wp2_with fail
    refine (xors_true _ ht hw0).mono ?_
    rintro e w1 ⟨rfl, hb1⟩
    go_wp2_with fail
    go_ret
    exact R1.mk rfl hb1)
  obtain ⟨n, rfl⟩ := Int.eq_ofNat_of_zero_le (show 0 ≤ n by omega)
  obtain ⟨k, rfl⟩ : ∃ k, n = k + 1 := ⟨n - 1, by omega⟩
  have hP : ∃ b N, packXN (List.replicate (k + 1) v) = ((b, N), 0) ∧ N = 80 + (k : Int) := by
    refine ⟨packB (packX (List.replicate (k + 1) v)), ((packX (List.replicate (k + 1) v)).length : Int), ?_, ?_⟩
    · unfold packXN
      rw [if_neg (by rw [List.length_replicate]; omega)]
    · rw [packX_same]; omega
  obtain ⟨b, N, hP, hN⟩ := hP
  have HP := Lib.hid hP; clear hP
  have HN := Lib.hid hN
  have hI : U64all (List.replicate (k + 1) v) := fun x hx => by rw [List.eq_of_mem_replicate hx]; exact hv
  obtain ⟨n, hkn⟩ : ∃ n, k + 1 = n := ⟨_, rfl⟩
  rw [hkn] at HP hI h1 h2 ⊢
  have hNn : N = 79 + (n : Int) := by omega
  have HI := Lib.hid hI; clear hI
  clear hkn hN HN
  have e1 : IntKind.i64.wrap (80 + (n : Int)) = 80 + (n : Int) := IntWalk.i64_in _ (by omega)
  have e2 : IntKind.i64.wrap (80 + (n : Int) - 1) = N := IntWalk.i64_in _ (by omega) |>.trans (by omega)
  have HN := Lib.hid hNn; clear hNn
  go_enter Tryd.func8, Tryd.ntmps8
  go_wp2_with fail
  refine (xors_true _ ht hw0).mono ?_
  rintro e w1 ⟨rfl, hb1⟩
  have HT1 := Lib.hid (ht.below hw0 hb1); clear ht
  have hw1 : 1 < w1.heap.size := Nat.lt_of_lt_of_le hw0 hb1.size
  have kb := Blk.new w1 41 #[.int .u64 (v : Int)]
  have hbb : Below w1.heap.size w1 (w1.alloc (.cells #[.int .u64 (v : Int)] 41)) := (Below.refl _ _).alloc (Nat.le_refl _) _
  have HT2 := Lib.hid (HT1.out.below hw1 hbb)
  go_wp2_with fail
  refine (repeat_any v n w1.heap.size (by omega) (by omega) _ kb.lt (by exact kb.cell 0)).mono ?_
  rintro e w2 ⟨u, rfl, A2, rfl, hm2, hb2⟩
  have hm2 := Lib.hid hm2
  have hw2 : 1 < (w1.alloc (.cells #[.int .u64 (v : Int)] 41)).heap.size := Nat.lt_of_lt_of_le hw1 hbb.size
  have HT3 := Lib.hid (HT2.out.below hw2 hb2)
  have hw3 : 1 < w2.heap.size := Nat.lt_of_lt_of_le hw2 hb2.size
  have hb12 := bnext (bnext hb1 hbb) hb2
  go_wp2_with fail
  refine (xpack_any' A2 n n (List.replicate n v) _ HP.out (by simp) (by rw [List.length_replicate]; unfold maxLen; omega) HI.out _ (by exact hm2.out) (by exact HT3.out) hw3).mono ?_
  rintro e w4 ⟨u, rfl, A4, c4, rfl, ho4, hb4⟩
  clear ho4
  have hb5 : Below w.heap.size w (w4.alloc (.cells #[.slice A4 b.length c4, .int .i64 N] 26)) := (bnext hb12 hb4).alloc (bnext hb12 hb4).size _
  go_wp2_with fail
  go_ret
  exact R1.mk (by simp) hb5
end Go.Proofs.YtkcfhfplppdnnaaDoor
