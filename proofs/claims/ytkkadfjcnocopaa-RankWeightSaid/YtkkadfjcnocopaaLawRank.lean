/- The walk of the law RankWeight: it returns true. Conditions: the arguments fit their kinds. -/
import Derived.Test.YtkkadfjcnocopaaWeight
import Derived.Lib.MinMax
namespace Go.Proofs.Ytkkadfjcnocopaa
open Go.RowKit

theorem at_ge {α : Type} [Inhabited α] {l : List α} {k : Nat} (h : l.length ≤ k) : at_ l k = default := by simp [at_, List.getD, List.getElem?_eq_none h]
theorem weight_facts {K : Int} {T : List Int} {L : List (List Int)} {N S x y : Int} (h : chkK K T L N S = 0) (hT : I64in T) (hL : ∀ k, k < L.length → I64in (at_ L k)) (hxy : x ≤ y) (hy : y ≤ 9223372036854775807) :
    0 ≤ wsum T L x L.length ∧ wsum T L x L.length ≤ wsum T L y L.length ∧ wsum T L y L.length ≤ wsum T L 9223372036854775807 L.length ∧ wsum T L 9223372036854775807 L.length = N := by
  have h1 : rkOk K L (ok0 K T L S) L.length = true ∧ rkN K L T.length L.length = N := by
    unfold chkK at h
    split at h
    · assumption
    · simp at h
  obtain ⟨h2, h3⟩ := rkOk_all h1.1
  obtain ⟨k1, k2, k3, k4⟩ := ok0_facts h2
  have hT64 : T.length ≤ 64 := by omega
  have hl : ∀ k, k < L.length → ((at_ L k).length : Int) = K ∨ (at_ L k).length = 0 := fun k hk => lvOk_len (h3 k hk)
  have hL64 : ∀ k, (at_ L k).length ≤ 64 := fun k => by
    rcases Nat.lt_or_ge k L.length with hk | hk
    · have := hl k hk; omega
    · rw [at_ge hk]; exact Nat.zero_le 64
  have hn : L.length ≤ 20 := by omega
  rw [wsum_eq hT64 hL64 hn, wsum_eq hT64 hL64 hn, wsum_eq hT64 hL64 hn]
  refine ⟨by omega, ?_, ?_, ?_⟩
  · exact Int.ofNat_le.2 (wN_mono hxy _)
  · exact Int.ofNat_le.2 (wN_mono hy _)
  · rw [← wsum_eq hT64 hL64 hn, ← rkN_eq (K := K) (by omega) hT64 (fun a ha => (hT a ha).2) (fun k hk a ha => (hL k hk a ha).2) hl (Nat.le_refl _)]
    exact h1.2

set_option maxRecDepth 1000000 in
set_option maxHeartbeats 8000000 in
theorem rankWeight_true (w : World) (K : Int) (A : Option Addr) (c : Nat) (T : List Int) (B : Option Addr) (e : Nat) (L : List (List Int)) (vs : List Value) (N S : Int) (hK : in64 K) (hT : IntAt w (.slice A T.length c) T) (hLe : L.length ≤ e) (hem : e ≤ maxLen)
    (hB : Has w w.heap.size B vs) (hL : IntsAt w vs L) (hLl : L.length ≤ 5864062014634) (_ : in64 N) (_ : in64 S) (x : Int) (hx : -9223372036854775808 ≤ x ∧ x ≤ 9223372036854775807) (y : Int) (hy : -9223372036854775808 ≤ y ∧ y ≤ 9223372036854775807) :
    Calls Try.prog 3 #[.agg #[.int .i64 K, .slice A T.length c, .slice B L.length e, .int .i64 N, .int .i64 S], .int .i64 x, .int .i64 y] w (R1 (.bool true) (Below w.heap.size w)) := by
  have hb1 : Below w.heap.size w (w.alloc (.cells #[.int .i64 K, .slice A T.length c, .slice B L.length e, .int .i64 N, .int .i64 S] 25)) := (Below.refl _ _).alloc (Nat.le_refl _) _
  have hk1 : Blk (w.alloc (.cells #[.int .i64 K, .slice A T.length c, .slice B L.length e, .int .i64 N, .int .i64 S] 25)) w.heap.size 25 #[.int .i64 K, .slice A T.length c, .slice B L.length e, .int .i64 N, .int .i64 S] := Blk.new _ _ _
  have hTi : I64in T := by obtain ⟨_, _, _, _, _, _, _, h⟩ := hT; exact h
  have hLi : ∀ k, k < L.length → I64in (at_ L k) := fun k hk => by obtain ⟨_, _, _, _, _, _, _, _, _, h⟩ := hL.get hk; exact h
  by_cases hC : chkK K T L N S = 0
  · obtain ⟨f1, f2, f3, f4⟩ := weight_facts hC hTi hLi (show min x y ≤ max x y by omega) (by omega)
    have ew : ∀ z, weightN K T L N S z = (wsum T L z L.length, 0) := fun z => by unfold weightN; rw [if_pos hC]
    have e1 := ew (min x y)
    have e2 := ew (max x y)
    have e3 := ew 9223372036854775807
    obtain ⟨a, ha⟩ : ∃ a, wsum T L (min x y) L.length = a := ⟨_, rfl⟩
    obtain ⟨b, hb⟩ : ∃ b, wsum T L (max x y) L.length = b := ⟨_, rfl⟩
    obtain ⟨m, hm⟩ : ∃ m, wsum T L 9223372036854775807 L.length = m := ⟨_, rfl⟩
    rw [ha] at e1 f1 f2
    rw [hb] at e2 f2 f3
    rw [hm] at e3 f3 f4
    subst f4
    have E1 := Lib.hid e1
    have E2 := Lib.hid e2
    have E3 := Lib.hid e3
    clear ew e1 e2 e3 ha hb hm hC hTi hLi
    go_enter Try.func3, Try.ntmps3
    go_wp2_with fail
    refine (ranks_true _).mono ?_
    rintro e' w2 ⟨rfl, hb2⟩
    have hb2' := bnext hb1 hb2
    have hk2 := hk1.next hb2
    have p0 : w2.cell? ⟨w.heap.size, 0, none⟩ = some (.int .i64 K) := hk2.cell 0
    have p1 : w2.cell? ⟨w.heap.size, 1, none⟩ = some (.slice A T.length c) := hk2.cell 1
    have p2 : w2.cell? ⟨w.heap.size, 2, none⟩ = some (.slice B L.length e) := hk2.cell 2
    have p3 : w2.cell? ⟨w.heap.size, 3, none⟩ = some (.int .i64 m) := hk2.cell 3
    have p4 : w2.cell? ⟨w.heap.size, 4, none⟩ = some (.int .i64 S) := hk2.cell 4
    go_wp2_with fail
    refine (Weight_any K hK A c T B e L vs m S (min x y) hLe hem _ (by exact hT.next hb2') (by exact hB.next hb2') (by exact hL.next hb2') hLl).mono ?_
    rw [E1.out, W2]
    rintro e' w3 ⟨rfl, hb3⟩
    have hb3' := bnext hb2' hb3
    have hk3 := hk2.next hb3
    clear p0 p1 p2 p3 p4
    have p0 : w3.cell? ⟨w.heap.size, 0, none⟩ = some (.int .i64 K) := hk3.cell 0
    have p1 : w3.cell? ⟨w.heap.size, 1, none⟩ = some (.slice A T.length c) := hk3.cell 1
    have p2 : w3.cell? ⟨w.heap.size, 2, none⟩ = some (.slice B L.length e) := hk3.cell 2
    have p3 : w3.cell? ⟨w.heap.size, 3, none⟩ = some (.int .i64 m) := hk3.cell 3
    have p4 : w3.cell? ⟨w.heap.size, 4, none⟩ = some (.int .i64 S) := hk3.cell 4
    go_wp2_with fail
    refine (Weight_any K hK A c T B e L vs m S (max x y) hLe hem _ (by exact hT.next hb3') (by exact hB.next hb3') (by exact hL.next hb3') hLl).mono ?_
    rw [E2.out, W2]
    rintro e' w4 ⟨rfl, hb4⟩
    have hb4' := bnext hb3' hb4
    have hk4 := hk3.next hb4
    clear p0 p1 p2 p3 p4
    have p0 : w4.cell? ⟨w.heap.size, 0, none⟩ = some (.int .i64 K) := hk4.cell 0
    have p1 : w4.cell? ⟨w.heap.size, 1, none⟩ = some (.slice A T.length c) := hk4.cell 1
    have p2 : w4.cell? ⟨w.heap.size, 2, none⟩ = some (.slice B L.length e) := hk4.cell 2
    have p3 : w4.cell? ⟨w.heap.size, 3, none⟩ = some (.int .i64 m) := hk4.cell 3
    have p4 : w4.cell? ⟨w.heap.size, 4, none⟩ = some (.int .i64 S) := hk4.cell 4
    go_wp2_with fail
    refine (Weight_any K hK A c T B e L vs m S 9223372036854775807 hLe hem _ (by exact hT.next hb4') (by exact hB.next hb4') (by exact hL.next hb4') hLl).mono ?_
    rw [E3.out, W2]
    rintro e' w5 ⟨rfl, hb5⟩
    have hb5' := bnext hb4' hb5
    have hk5 := hk4.next hb5
    clear p0 p1 p2 p3 p4
    go_wp2_with fail
    refine (good_any _ 2 _ [0, 0] rfl (by decide) _ (Has.fresh w5 #[.int .i64 0, .int .i64 0] _)).mono ?_
    rintro e' w6 ⟨rfl, n6, rfl⟩
    have hk6 := (hk5.alloc (.cells #[.int .i64 0, .int .i64 0] 27)).drewN n6
    have p3 : ((w5.alloc (.cells #[.int .i64 0, .int .i64 0] 27)).drewN n6).cell? ⟨w.heap.size, 3, none⟩ = some (.int .i64 m) := hk6.cell 3
    go_wp2_with fail
    go_ret
    exact R1.mk (by simp) (below_drewN (bnext hb5' ((Below.refl _ _).alloc (Nat.le_refl _) _)) _)
  · have ew : ∀ z, weightN K T L N S z = (0, 4) := fun z => by unfold weightN; rw [if_neg hC]
    have E1 := Lib.hid (ew (min x y))
    have E2 := Lib.hid (ew (max x y))
    clear ew hC hTi hLi
    go_enter Try.func3, Try.ntmps3
    go_wp2_with fail
    refine (ranks_true _).mono ?_
    rintro e' w2 ⟨rfl, hb2⟩
    have hb2' := bnext hb1 hb2
    have hk2 := hk1.next hb2
    have p0 : w2.cell? ⟨w.heap.size, 0, none⟩ = some (.int .i64 K) := hk2.cell 0
    have p1 : w2.cell? ⟨w.heap.size, 1, none⟩ = some (.slice A T.length c) := hk2.cell 1
    have p2 : w2.cell? ⟨w.heap.size, 2, none⟩ = some (.slice B L.length e) := hk2.cell 2
    have p3 : w2.cell? ⟨w.heap.size, 3, none⟩ = some (.int .i64 N) := hk2.cell 3
    have p4 : w2.cell? ⟨w.heap.size, 4, none⟩ = some (.int .i64 S) := hk2.cell 4
    go_wp2_with fail
    refine (Weight_any K hK A c T B e L vs N S (min x y) hLe hem _ (by exact hT.next hb2') (by exact hB.next hb2') (by exact hL.next hb2') hLl).mono ?_
    rw [E1.out, W2]
    rintro e' w3 ⟨rfl, hb3⟩
    have hb3' := bnext hb2' hb3
    have hk3 := hk2.next hb3
    clear p0 p1 p2 p3 p4
    have p0 : w3.cell? ⟨w.heap.size, 0, none⟩ = some (.int .i64 K) := hk3.cell 0
    have p1 : w3.cell? ⟨w.heap.size, 1, none⟩ = some (.slice A T.length c) := hk3.cell 1
    have p2 : w3.cell? ⟨w.heap.size, 2, none⟩ = some (.slice B L.length e) := hk3.cell 2
    have p3 : w3.cell? ⟨w.heap.size, 3, none⟩ = some (.int .i64 N) := hk3.cell 3
    have p4 : w3.cell? ⟨w.heap.size, 4, none⟩ = some (.int .i64 S) := hk3.cell 4
    go_wp2_with fail
    refine (Weight_any K hK A c T B e L vs N S (max x y) hLe hem _ (by exact hT.next hb3') (by exact hB.next hb3') (by exact hL.next hb3') hLl).mono ?_
    rw [E2.out, W2]
    rintro e' w4 ⟨rfl, hb4⟩
    have hb4' := bnext hb3' hb4
    go_wp2_with fail
    go_ret
    exact R1.mk rfl hb4'
end Go.Proofs.Ytkkadfjcnocopaa
