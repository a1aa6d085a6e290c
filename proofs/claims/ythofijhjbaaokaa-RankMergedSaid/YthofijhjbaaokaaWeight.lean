/- What Weight of package rank answers, and what its laws begin with. Conditions: rows lie in their cells. -/
import Derived.Test.YthofijhjbaaokaaRank
namespace Go.Proofs.Ythofijhjbaaokaa
open Go.RowKit

theorem wsum_succ (T : List Int) (L : List (List Int)) (x : Int) (k : Nat) : wsum T L x (k + 1) = wrap64 (wsum T L x k + wrap64 ((lead (at_ L k) x : Nat) * 2 ^ k)) := rfl
def W2 (x : Int × Int) : Value := .tuple #[.int .i64 x.1, .int .i64 x.2]
abbrev rankV (K : Int) (A : Option Addr) (n c : Nat) (B : Option Addr) (m e : Nat) (N S : Int) : Array Value := #[.int .i64 K, .slice A n c, .slice B m e, .int .i64 N, .int .i64 S]

set_option maxRecDepth 1000000 in
set_option maxHeartbeats 4000000 in
theorem weight_any (K : Int) (A : Option Addr) (c : Nat) (T : List Int) (B : Option Addr) (e : Nat) (L : List (List Int)) (vs : List Value) (N S x : Int) (hLe : L.length ≤ e) (hem : e ≤ maxLen)
    (w : World) (hT : IntAt w (.slice A T.length c) T) (hB : Has w w.heap.size B vs) (hL : IntsAt w vs L) (hLl : L.length ≤ 20) :
    Calls Try.prog 35 #[.agg #[.int .i64 K, .slice A T.length c, .slice B L.length e, .int .i64 N, .int .i64 S], .int .i64 x] w (R1 (.int .i64 (wsum T L x L.length)) (Below w.heap.size w)) := by
  obtain ⟨A0, c0, e0, hT1, hT2, hT3, hT4, _⟩ := hT
  injection e0 with e01 _ e02
  subst e01 e02
  have hTm : T.length ≤ maxLen := Nat.le_trans hT1 hT2
  have hb1 : Below w.heap.size w (w.alloc (.cells #[.int .i64 K, .slice A T.length c, .slice B L.length e, .int .i64 N, .int .i64 S] 26)) := (Below.refl _ _).alloc (Nat.le_refl _) _
  have hk1 : Blk (w.alloc (.cells #[.int .i64 K, .slice A T.length c, .slice B L.length e, .int .i64 N, .int .i64 S] 26)) w.heap.size 26 #[.int .i64 K, .slice A T.length c, .slice B L.length e, .int .i64 N, .int .i64 S] := Blk.new _ _ _
  have hTx := Lib.hid (Has.alloc hT4 (Nat.le_refl _) (.cells #[.int .i64 K, .slice A T.length c, .slice B L.length e, .int .i64 N, .int .i64 S] 26))
  go_enter Try.func35, Try.ntmps35
  go_wp2_with fail
  refine (upTo_any A _ c T x rfl hTm _ (by exact hTx.out.more (by simp))).mono ?_
  rintro e' w2 ⟨rfl, n2, rfl⟩
  go_wp2_with fail
  go_loopw [5, 15] (fun n i wr => ∃ (k : Nat), k ≤ L.length ∧ i = .int .i64 (k : Nat) ∧ n = .int .i64 (wsum T L x k) ∧ Below w.heap.size w wr ∧ Blk wr w.heap.size 26 #[.int .i64 K, .slice A T.length c, .slice B L.length e, .int .i64 N, .int .i64 S]) (fun _ i _ => L.length + 5 - (intOf i).toNat)
  case atStart => exact ⟨0, by omega, rfl, rfl, by first | exact hb1 | exact below_drewN hb1 _, by first | exact hk1 | exact hk1.drewN _⟩
  case round =>
    obtain ⟨k, hk, rfl, rfl, hbr, hkr⟩ := hrel
    by_cases hlt : (k : Int) < (L.length : Int)
    · obtain ⟨u, hu, A3, c3, rfl, h31, h32, h33, h34, _⟩ := hL.get (show k < L.length by omega)
      obtain ⟨bd, rfl, _, cB⟩ := (hB.below hbr).at hu
      obtain ⟨R, hR⟩ : ∃ R, at_ L k = R := ⟨_, rfl⟩
      have h35 : Has wr wr.heap.size A3 (i64s (at_ L k)) := h34.next hbr
      have eN := wsum_succ T L x k
      rw [hR] at cB h31 h34 h35 eN
      obtain ⟨z, hz⟩ : ∃ z, wsum T L x k = z := ⟨_, rfl⟩
      rw [hz] at eN
      rw [hz]
      have HN := Lib.hid eN
      clear hR hu eN hz
      go_wp2_with fail
      refine (upTo_any A3 _ c3 R x rfl (by omega) _ (by exact h35)).mono ?_
      rintro e' w3 ⟨rfl, n3, rfl⟩
      go_wp2_with fail
      go_roundw
      case rel => exact ⟨k + 1, by omega, by go_num, int_eq (by rw [HN.out]), below_drewN hbr _, hkr.drewN _⟩
      case measure => simp [intOf]; omega
    · have hkl : k = L.length := by omega
      subst hkl
      go_wp2_with fail
      go_ret
      exact R1.mk rfl hbr

set_option maxRecDepth 1000000 in
set_option maxHeartbeats 4000000 in
theorem Weight_any (K : Int) (hK : in64 K) (A : Option Addr) (c : Nat) (T : List Int) (B : Option Addr) (e : Nat) (L : List (List Int)) (vs : List Value) (N S x : Int) (hLe : L.length ≤ e) (hem : e ≤ maxLen)
    (w : World) (hT : IntAt w (.slice A T.length c) T) (hB : Has w w.heap.size B vs) (hL : IntsAt w vs L) (hLl : L.length ≤ 5864062014634) :
    Calls Try.prog 11 #[.agg #[.int .i64 K, .slice A T.length c, .slice B L.length e, .int .i64 N, .int .i64 S], .int .i64 x] w
      (R1 (W2 (weightN K T L N S x)) (Below w.heap.size w)) := by
  have hb1 : Below w.heap.size w (w.alloc (.cells #[.int .i64 K, .slice A T.length c, .slice B L.length e, .int .i64 N, .int .i64 S] 26)) := (Below.refl _ _).alloc (Nat.le_refl _) _
  have hk1 : Blk (w.alloc (.cells #[.int .i64 K, .slice A T.length c, .slice B L.length e, .int .i64 N, .int .i64 S] 26)) w.heap.size 26 #[.int .i64 K, .slice A T.length c, .slice B L.length e, .int .i64 N, .int .i64 S] := Blk.new _ _ _
  obtain ⟨C, hC⟩ : ∃ C, chkK K T L N S = C := ⟨_, rfl⟩
  have hC04 := chkK_cases K T L N S
  have eW : weightN K T L N S x = if C = 0 then (wsum T L x L.length, 0) else (0, 4) := by unfold weightN; rw [hC]
  rw [hC] at hC04
  have hl20 : C = 0 → L.length ≤ 20 := fun h => by
    unfold chkK at hC
    split at hC
    · rename_i h1
      have := (ok0_facts (rkOk_all h1.1).1).2.2.2
      omega
    · omega
  have HC := Lib.hid hC
  have HW := Lib.hid eW
  clear hC eW
  go_enter Try.func11, Try.ntmps11
  go_wp2_with fail
  refine (rcheck_any K hK A c T B e L vs N S hLe hem _ (by exact hT.next hb1) (by exact hB.next hb1) (by exact hL.next hb1) hLl).mono ?_
  rw [HC.out]
  rintro e' w2 ⟨rfl, hb2⟩
  have hb12 := bnext hb1 hb2
  have hk2 := hk1.next hb2
  have y0 : w2.cell? ⟨w.heap.size, 0, none⟩ = some (.int .i64 K) := hk2.cell 0
  have y1 : w2.cell? ⟨w.heap.size, 1, none⟩ = some (.slice A T.length c) := hk2.cell 1
  have y2 : w2.cell? ⟨w.heap.size, 2, none⟩ = some (.slice B L.length e) := hk2.cell 2
  have y3 : w2.cell? ⟨w.heap.size, 3, none⟩ = some (.int .i64 N) := hk2.cell 3
  have y4 : w2.cell? ⟨w.heap.size, 4, none⟩ = some (.int .i64 S) := hk2.cell 4
  rcases hC04 with rfl | rfl
  · go_wp2_with fail
    refine (weight_any K A c T B e L vs N S x hLe hem _ (by exact hT.next hb12) (by exact hB.next hb12) (by exact hL.next hb12) (by first | exact hl20 rfl | exact hl20 trivial | simpa using hl20)).mono ?_
    rintro e' w3 ⟨rfl, hb3⟩
    go_wp2_with fail
    go_ret2
    rw [HW.out]
    exact R1.mk rfl (bnext hb12 hb3)
  · go_wp2_with fail
    go_ret2
    rw [HW.out]
    exact R1.mk rfl hb12

set_option maxRecDepth 1000000 in
set_option maxHeartbeats 1000000 in
theorem empty4_any (w : World) : Calls Try.prog 28 #[.int .i64 4] w (R1 (.tuple #[.agg #[.int .i64 4, .slice none 0 0, .slice none 0 0, .int .i64 0, .int .i64 0], .int .i64 0]) (Below w.heap.size w)) := by
  go_enter Try.func28, Try.ntmps28
  go_wp2_with fail
  refine bodyPost_ret (v := .tuple #[.agg #[.int .i64 4, .slice none 0 0, .slice none 0 0, .int .i64 0, .int .i64 0], .int .i64 0]) (by simp [results, Try.results28, go_sem, *]) rfl (R1.mk rfl ?_)
  exact (Below.refl _ _).alloc (Nat.le_refl _) _
set_option maxRecDepth 1000000 in
set_option maxHeartbeats 1000000 in
theorem ranks_true (w : World) : Calls Try.prog 8 #[] w (R1 (.bool true) (Below w.heap.size w)) := by
  go_enter Try.func8, Try.ntmps8
  go_wp2_with fail
  refine (empty4_any _).mono ?_
  rintro e w1 ⟨rfl, hb1⟩
  go_wp2_with fail
  go_ret
  refine R1.mk rfl ?_
  exact bnext hb1 ((Below.refl _ _).alloc (Nat.le_refl _) _)
end Go.Proofs.Ythofijhjbaaokaa
