/- What part of package chunk finds at the front of bytes. Conditions: the bytes are bytes. -/
import Derived.Test.YtmbpgenjjgepiaaDoorSealLaw
import Derived.Test.YtmbpgenjjgepiaaDoorTake
import Derived.Test.YtmbpgenjjgepiaaDoorTakeLaw
import Derived.RegionTactic
namespace Go.Proofs.YtmbpgenjjgepiaaDoor
open Go.RowKit

theorem cutP {w : World} {B : Nat} {ad : Addr} {b : List Nat} {c j x : Nat} (h : Has w B (some ad) (u8s b)) (hbc : b.length ≤ c) (hj : j < c) : Has w B (some (ad.add j)) (u8s ((b.drop j).take x)) := by
  have h1 := (h.cut (k := j) (size := 1) (cap := c) (n := b.length) (by rw [u8s_len]; omega) hbc).take x
  rw [if_neg (by omega), Nat.mul_one] at h1
  have e : (u8s ((b.drop j).take x)) = ((u8s b).drop j).take x := by simp [u8s, List.map_take, List.map_drop]
  rw [e]
  exact h1
theorem has_nilP (w : World) (B : Nat) (A : Option Addr) : Has w B A (u8s []) := fun h => absurd rfl h
def noPart : Value := .tuple #[.agg #[.slice none 0 0, .int .i64 0], .slice none 0 0, .bool false]
/-- what part answers -/
def PartP (b : List Nat) (w : World) (v : Value) (w' : World) : Prop :=
  ((partN b = none ∧ v = noPart) ∨ ∃ x n r B cB C cC, partN b = some ((x, n), r) ∧ v = .tuple #[.agg #[.slice B x.length cB, .int .i64 (n : Nat)], .slice C r.length cC, .bool true] ∧ x.length = (n + 7) / 8 ∧ n ≤ 8 * b.length ∧ r.length ≤ b.length ∧
    Has w' w'.heap.size B (u8s x) ∧ Has w' w'.heap.size C (u8s r) ∧ r.length ≤ cC ∧ cC ≤ maxLen ∧ Bytes x ∧ Bytes r) ∧ Below w.heap.size w w'

set_option maxRecDepth 1000000 in
set_option maxHeartbeats 4000000 in
theorem part_any (A : Option Addr) (n c : Nat) (b : List Nat) (hn : b.length = n) (hnc : n ≤ c) (hcm : c ≤ maxLen) (hl : b.length ≤ 140737488355328) (hb : Bytes b) (w : World) (h : Has w w.heap.size A (u8s b)) :
    Calls Tryd.prog 16 #[.slice A n c] w (RV (PartP b w)) := by
  subst hn
  have hlm : b.length ≤ maxLen := by unfold maxLen; omega
  obtain ⟨⟨x, j, e⟩, ht⟩ : ∃ r, takeN b = r := ⟨_, rfl⟩
  have hx := takeN_lt hb ht
  have HT := Lib.hid ht
  have hb1 : Below w.heap.size w (w.alloc (.cells #[.slice none 0 0, .int .i64 0] 43)) := (Below.refl _ _).alloc (Nat.le_refl _) _
  have hk1 : Blk (w.alloc (.cells #[.slice none 0 0, .int .i64 0] 43)) w.heap.size 43 #[.slice none 0 0, .int .i64 0] := Blk.new _ _ _
  have HTk := Lib.hid (fun (w' : World) (hh : Has w' w'.heap.size A (u8s b)) => take_any' A _ c b rfl hlm hb w' hh)
  have Hh := Lib.hid (h.next hb1)
  have E : partN b = if e ≠ 0 ∨ 8 * b.length < x then none else if b.length < j + (x + 7) / 8 then none else some (((b.drop j).take ((x + 7) / 8), x), b.drop (j + (x + 7) / 8)) := by unfold partN; rw [ht]
  have e8 : IntKind.u64.wrap (8 * ((b.length : Nat) : Int)) = 8 * ((b.length : Nat) : Int) := by rw [IntKind.wrap_u64]; omega
  have el : IntKind.u64.wrap ((b.length : Nat) : Int) = ((b.length : Nat) : Int) := by rw [IntKind.wrap_u64]; omega
  by_cases hc : e ≠ 0 ∨ 8 * b.length < x
  · rw [if_pos hc] at E
    have E := Lib.hid E
    rcases (show (e ≠ 0) ∨ (e = 0 ∧ 8 * b.length < x) by omega) with h1 | ⟨h1, h2⟩
    · have f1 : ((e : Int) != 0) = true := by rw [bne_iff_ne]; omega
      clear hc h1 ht h
      go_enter Tryd.func16, Tryd.ntmps16
      go_wp2_with fail
      refine (HTk.out _ (by exact Hh.out)).mono ?_
      rintro e' w1 ⟨rfl, n1, rfl⟩
      rw [HT.out, R3]
      have hb2 : Below w.heap.size w ((w.alloc (.cells #[.slice none 0 0, .int .i64 0] 43)).drewN n1) := below_drewN hb1 n1
      have hk2 := hk1.drewN n1
      clear hb1 hk1
      go_wp2_with fail
      refine bodyPost_ret (v := .tuple #[.agg #[.slice none 0 0, .int .i64 0], .slice none 0 0, .bool false]) (by simp [results, Tryd.results16, go_sem, *]) rfl (RV.mk ?_)
      exact ⟨.inl ⟨E.out, rfl⟩, (hb2.setCell (p := ⟨w.heap.size, 0, none⟩) (Nat.le_refl _) _).setCell (p := ⟨w.heap.size, 1, none⟩) (Nat.le_refl _) _⟩
    · subst h1
      have h2' : 8 * ((b.length : Nat) : Int) < (x : Int) := by omega
      clear hc h2 ht h
      go_enter Tryd.func16, Tryd.ntmps16
      go_wp2_with fail
      refine (HTk.out _ (by exact Hh.out)).mono ?_
      rintro e' w1 ⟨rfl, n1, rfl⟩
      rw [HT.out, R3]
      have hb2 : Below w.heap.size w ((w.alloc (.cells #[.slice none 0 0, .int .i64 0] 43)).drewN n1) := below_drewN hb1 n1
      have hk2 := hk1.drewN n1
      clear hb1 hk1
      go_wp2_with fail
      refine bodyPost_ret (v := .tuple #[.agg #[.slice none 0 0, .int .i64 0], .slice none 0 0, .bool false]) (by simp [results, Tryd.results16, go_sem, *]) rfl (RV.mk ?_)
      exact ⟨.inl ⟨E.out, rfl⟩, (hb2.setCell (p := ⟨w.heap.size, 0, none⟩) (Nat.le_refl _) _).setCell (p := ⟨w.heap.size, 1, none⟩) (Nat.le_refl _) _⟩
  · rw [if_neg hc] at E
    obtain rfl : e = 0 := by omega
    obtain ⟨_, hj2, _⟩ := takeN_ok hb HT.out
    have h2' : ¬ 8 * ((b.length : Nat) : Int) < (x : Int) := by omega
    have e1 : IntKind.i64.wrap (x : Int) = (x : Int) := IntWalk.i64_in _ (by omega)
    obtain ⟨q, hq⟩ : ∃ q, (x + 7) / 8 = q := ⟨_, rfl⟩
    have eq1 : ((x : Int) + 7).tdiv 8 = (q : Int) := by rw [← hq, Int.tdiv_eq_ediv_of_nonneg (by omega)]; omega
    rw [hq] at E
    have hqx : q ≤ b.length + 1 := by omega
    clear hc ht
    by_cases hs : b.length < j + q
    · rw [if_pos hs] at E
      have E := Lib.hid E
      have h3' : ((b.length : Nat) : Int) < (j : Int) + (q : Int) := by omega
      clear hs h
      go_enter Tryd.func16, Tryd.ntmps16
      go_wp2_with fail
      refine (HTk.out _ (by exact Hh.out)).mono ?_
      rintro e' w1 ⟨rfl, n1, rfl⟩
      rw [HT.out, R3]
      have hb2 : Below w.heap.size w ((w.alloc (.cells #[.slice none 0 0, .int .i64 0] 43)).drewN n1) := below_drewN hb1 n1
      have hk2 := hk1.drewN n1
      clear hb1 hk1
      go_wp2_with fail
      refine bodyPost_ret (v := .tuple #[.agg #[.slice none 0 0, .int .i64 0], .slice none 0 0, .bool false]) (by simp [results, Tryd.results16, go_sem, *]) rfl (RV.mk ?_)
      exact ⟨.inl ⟨E.out, rfl⟩, (hb2.setCell (p := ⟨w.heap.size, 0, none⟩) (Nat.le_refl _) _).setCell (p := ⟨w.heap.size, 1, none⟩) (Nat.le_refl _) _⟩
    · rw [if_neg hs] at E
      have E := Lib.hid E
      have h3' : (j : Int) + (q : Int) ≤ ((b.length : Nat) : Int) := by omega
      obtain ⟨ad, rfl, _, _⟩ := h.at (u8s_at (show 0 < b.length by omega))
      have hnc' : ((b.length : Nat) : Int) ≤ (c : Int) := by omega
      clear hs
      rcases (show j + q < c ∨ (j < c ∧ j + q = c) ∨ (j = c ∧ q = 0) by omega) with g1 | ⟨g1, g2⟩ | ⟨g1, g2⟩
      · go_enter Tryd.func16, Tryd.ntmps16
        go_wp2_with fail
        refine (HTk.out _ (by exact Hh.out)).mono ?_
        rintro e' w1 ⟨rfl, n1, rfl⟩
        rw [HT.out, R3]
        have hb2 : Below w.heap.size w ((w.alloc (.cells #[.slice none 0 0, .int .i64 0] 43)).drewN n1) := below_drewN hb1 n1
        have hk2 := hk1.drewN n1
        clear hb1 hk1
        have e2 : IntKind.i64.wrap ((j : Int) + (q : Int)) = (j : Int) + (q : Int) := IntWalk.i64_in _ (by omega)
        go_wp2_with fail
        obtain ⟨W1, hW1⟩ : ∃ W1, (w.alloc (.cells #[.slice none 0 0, .int .i64 0] 43)).drewN n1 = W1 := ⟨_, rfl⟩
        rw [hW1] at hb2 hk2 ⊢
        have f0 := hk2.frozen 0
        have f1 := hk2.frozen 1
        have y0 : W1.cell? ⟨w.heap.size, 0, none⟩ = some (.slice none 0 0) := hk2.cell 0
        have y1 : W1.cell? ⟨w.heap.size, 1, none⟩ = some (.int .i64 0) := hk2.cell 1
        have p1 : (0 : Int) ≤ (j : Int) := by omega
        have p2 : (j : Int) ≤ (j : Int) + (q : Int) := by omega
        have p3 : (j : Int) + (q : Int) ≤ (c : Int) := by omega
        have p4 : (0 : Int) ≤ (j : Int) + (q : Int) := by omega
        go_region
        have k0 := (hk2.set 0 (.slice (some (ad.add j)) q (c - j))).set 1 (.int .i64 (x : Int))
        have z0 : ((W1.setCell ⟨w.heap.size, 0, none⟩ (.slice (some (ad.add j)) q (c - j))).setCell ⟨w.heap.size, 1, none⟩ (.int .i64 (x : Int))).drew.cell? ⟨w.heap.size, 0, none⟩ = some (.slice (some (ad.add j)) q (c - j)) := k0.cell 0
        have z1 : ((W1.setCell ⟨w.heap.size, 0, none⟩ (.slice (some (ad.add j)) q (c - j))).setCell ⟨w.heap.size, 1, none⟩ (.int .i64 (x : Int))).drew.cell? ⟨w.heap.size, 1, none⟩ = some (.int .i64 (x : Int)) := k0.cell 1
        have hb3 : Below w.heap.size w ((W1.setCell ⟨w.heap.size, 0, none⟩ (.slice (some (ad.add j)) q (c - j))).setCell ⟨w.heap.size, 1, none⟩ (.int .i64 (x : Int))).drew := below_drewN ((hb2.setCell (p := ⟨w.heap.size, 0, none⟩) (Nat.le_refl _) _).setCell (p := ⟨w.heap.size, 1, none⟩) (Nat.le_refl _) _) 1
        obtain ⟨W3, hW3⟩ : ∃ W3, ((W1.setCell ⟨w.heap.size, 0, none⟩ (.slice (some (ad.add j)) q (c - j))).setCell ⟨w.heap.size, 1, none⟩ (.int .i64 (x : Int))).drew = W3 := ⟨_, rfl⟩
        rw [hW3] at z0 z1 hb3 ⊢
        go_wp2_with fail
        refine bodyPost_ret (v := .tuple #[.agg #[.slice (some (ad.add j)) q (c - j), .int .i64 (x : Int)], .slice (some (ad.add (j + q))) (b.length - (j + q)) (c - (j + q)), .bool true]) (by simp [results, Tryd.results16, go_sem, *]) rfl (RV.mk ?_)
        have hX : ((b.drop j).take q).length = q := by rw [List.length_take, List.length_drop]; omega
        have hR : (b.drop (j + q)).length = b.length - (j + q) := List.length_drop
        refine ⟨.inr ⟨_, x, _, (some (ad.add j)), (c - j), (some (ad.add (j + q))), (c - (j + q)), E.out, by rw [hX, hR], by rw [hX]; exact hq.symm, by omega, by rw [hR]; omega, (cutP h hnc (by omega)).next hb3, (by have h9 := (cutP (x := b.length) h hnc (show j + q < c by omega)).next hb3; rwa [List.take_of_length_le (by rw [hR]; omega)] at h9), by rw [hR]; omega, by omega, fun y hy => hb y (List.mem_of_mem_drop (List.mem_of_mem_take hy)), fun y hy => hb y (List.mem_of_mem_drop hy)⟩, hb3⟩
      · go_enter Tryd.func16, Tryd.ntmps16
        go_wp2_with fail
        refine (HTk.out _ (by exact Hh.out)).mono ?_
        rintro e' w1 ⟨rfl, n1, rfl⟩
        rw [HT.out, R3]
        have hb2 : Below w.heap.size w ((w.alloc (.cells #[.slice none 0 0, .int .i64 0] 43)).drewN n1) := below_drewN hb1 n1
        have hk2 := hk1.drewN n1
        clear hb1 hk1
        have e2 : IntKind.i64.wrap ((j : Int) + (q : Int)) = (j : Int) + (q : Int) := IntWalk.i64_in _ (by omega)
        go_wp2_with fail
        obtain ⟨W1, hW1⟩ : ∃ W1, (w.alloc (.cells #[.slice none 0 0, .int .i64 0] 43)).drewN n1 = W1 := ⟨_, rfl⟩
        rw [hW1] at hb2 hk2 ⊢
        have f0 := hk2.frozen 0
        have f1 := hk2.frozen 1
        have y0 : W1.cell? ⟨w.heap.size, 0, none⟩ = some (.slice none 0 0) := hk2.cell 0
        have y1 : W1.cell? ⟨w.heap.size, 1, none⟩ = some (.int .i64 0) := hk2.cell 1
        have p1 : (0 : Int) ≤ (j : Int) := by omega
        have p2 : (j : Int) ≤ (j : Int) + (q : Int) := by omega
        have p3 : (j : Int) + (q : Int) ≤ (c : Int) := by omega
        have p4 : (0 : Int) ≤ (j : Int) + (q : Int) := by omega
        go_region
        have k0 := (hk2.set 0 (.slice (some (ad.add j)) (c - j) (c - j))).set 1 (.int .i64 (x : Int))
        have z0 : ((W1.setCell ⟨w.heap.size, 0, none⟩ (.slice (some (ad.add j)) (c - j) (c - j))).setCell ⟨w.heap.size, 1, none⟩ (.int .i64 (x : Int))).drew.cell? ⟨w.heap.size, 0, none⟩ = some (.slice (some (ad.add j)) (c - j) (c - j)) := k0.cell 0
        have z1 : ((W1.setCell ⟨w.heap.size, 0, none⟩ (.slice (some (ad.add j)) (c - j) (c - j))).setCell ⟨w.heap.size, 1, none⟩ (.int .i64 (x : Int))).drew.cell? ⟨w.heap.size, 1, none⟩ = some (.int .i64 (x : Int)) := k0.cell 1
        have hb3 : Below w.heap.size w ((W1.setCell ⟨w.heap.size, 0, none⟩ (.slice (some (ad.add j)) (c - j) (c - j))).setCell ⟨w.heap.size, 1, none⟩ (.int .i64 (x : Int))).drew := below_drewN ((hb2.setCell (p := ⟨w.heap.size, 0, none⟩) (Nat.le_refl _) _).setCell (p := ⟨w.heap.size, 1, none⟩) (Nat.le_refl _) _) 1
        obtain ⟨W3, hW3⟩ : ∃ W3, ((W1.setCell ⟨w.heap.size, 0, none⟩ (.slice (some (ad.add j)) (c - j) (c - j))).setCell ⟨w.heap.size, 1, none⟩ (.int .i64 (x : Int))).drew = W3 := ⟨_, rfl⟩
        rw [hW3] at z0 z1 hb3 ⊢
        go_wp2_with fail
        refine bodyPost_ret (v := .tuple #[.agg #[.slice (some (ad.add j)) (c - j) (c - j), .int .i64 (x : Int)], .slice (some ad) (b.length - (j + q)) (c - (j + q)), .bool true]) (by simp [results, Tryd.results16, go_sem, *]) rfl (RV.mk ?_)
        have hX : ((b.drop j).take q).length = q := by rw [List.length_take, List.length_drop]; omega
        have hR : (b.drop (j + q)).length = b.length - (j + q) := List.length_drop
        refine ⟨.inr ⟨_, x, _, (some (ad.add j)), (c - j), (some ad), (c - (j + q)), E.out, by rw [hX, hR, show c - j = q by omega], by rw [hX]; exact hq.symm, by omega, by rw [hR]; omega, (cutP h hnc (by omega)).next hb3, (by rw [show b.drop (j + q) = [] from List.eq_nil_of_length_eq_zero (by rw [hR]; omega)]; exact has_nilP _ _ _), by rw [hR]; omega, by omega, fun y hy => hb y (List.mem_of_mem_drop (List.mem_of_mem_take hy)), fun y hy => hb y (List.mem_of_mem_drop hy)⟩, hb3⟩
      · go_enter Tryd.func16, Tryd.ntmps16
        go_wp2_with fail
        refine (HTk.out _ (by exact Hh.out)).mono ?_
        rintro e' w1 ⟨rfl, n1, rfl⟩
        rw [HT.out, R3]
        have hb2 : Below w.heap.size w ((w.alloc (.cells #[.slice none 0 0, .int .i64 0] 43)).drewN n1) := below_drewN hb1 n1
        have hk2 := hk1.drewN n1
        clear hb1 hk1
        have e2 : IntKind.i64.wrap ((j : Int) + (q : Int)) = (j : Int) + (q : Int) := IntWalk.i64_in _ (by omega)
        go_wp2_with fail
        obtain ⟨W1, hW1⟩ : ∃ W1, (w.alloc (.cells #[.slice none 0 0, .int .i64 0] 43)).drewN n1 = W1 := ⟨_, rfl⟩
        rw [hW1] at hb2 hk2 ⊢
        have f0 := hk2.frozen 0
        have f1 := hk2.frozen 1
        have y0 : W1.cell? ⟨w.heap.size, 0, none⟩ = some (.slice none 0 0) := hk2.cell 0
        have y1 : W1.cell? ⟨w.heap.size, 1, none⟩ = some (.int .i64 0) := hk2.cell 1
        have p1 : (0 : Int) ≤ (j : Int) := by omega
        have p2 : (j : Int) ≤ (j : Int) + (q : Int) := by omega
        have p3 : (j : Int) + (q : Int) ≤ (c : Int) := by omega
        have p4 : (0 : Int) ≤ (j : Int) + (q : Int) := by omega
        go_region
        have k0 := (hk2.set 0 (.slice (some ad) 0 0)).set 1 (.int .i64 (x : Int))
        have z0 : ((W1.setCell ⟨w.heap.size, 0, none⟩ (.slice (some ad) 0 0)).setCell ⟨w.heap.size, 1, none⟩ (.int .i64 (x : Int))).drew.cell? ⟨w.heap.size, 0, none⟩ = some (.slice (some ad) 0 0) := k0.cell 0
        have z1 : ((W1.setCell ⟨w.heap.size, 0, none⟩ (.slice (some ad) 0 0)).setCell ⟨w.heap.size, 1, none⟩ (.int .i64 (x : Int))).drew.cell? ⟨w.heap.size, 1, none⟩ = some (.int .i64 (x : Int)) := k0.cell 1
        have hb3 : Below w.heap.size w ((W1.setCell ⟨w.heap.size, 0, none⟩ (.slice (some ad) 0 0)).setCell ⟨w.heap.size, 1, none⟩ (.int .i64 (x : Int))).drew := below_drewN ((hb2.setCell (p := ⟨w.heap.size, 0, none⟩) (Nat.le_refl _) _).setCell (p := ⟨w.heap.size, 1, none⟩) (Nat.le_refl _) _) 1
        obtain ⟨W3, hW3⟩ : ∃ W3, ((W1.setCell ⟨w.heap.size, 0, none⟩ (.slice (some ad) 0 0)).setCell ⟨w.heap.size, 1, none⟩ (.int .i64 (x : Int))).drew = W3 := ⟨_, rfl⟩
        rw [hW3] at z0 z1 hb3 ⊢
        go_wp2_with fail
        refine bodyPost_ret (v := .tuple #[.agg #[.slice (some ad) 0 0, .int .i64 (x : Int)], .slice (some ad) 0 0, .bool true]) (by simp [results, Tryd.results16, go_sem, *]) rfl (RV.mk ?_)
        have hX : ((b.drop j).take q).length = q := by rw [List.length_take, List.length_drop]; omega
        have hR : (b.drop (j + q)).length = b.length - (j + q) := List.length_drop
        refine ⟨.inr ⟨_, x, _, (some ad), 0, (some ad), 0, E.out, by rw [hX, hR, show b.length - (j + q) = 0 by omega, g2], by rw [hX]; exact hq.symm, by omega, by rw [hR]; omega, (by rw [show (b.drop j).take q = [] from List.eq_nil_of_length_eq_zero (by rw [hX]; omega)]; exact has_nilP _ _ _), (by rw [show b.drop (j + q) = [] from List.eq_nil_of_length_eq_zero (by rw [hR]; omega)]; exact has_nilP _ _ _), by rw [hR]; omega, by omega, fun y hy => hb y (List.mem_of_mem_drop (List.mem_of_mem_take hy)), fun y hy => hb y (List.mem_of_mem_drop hy)⟩, hb3⟩
end Go.Proofs.YtmbpgenjjgepiaaDoor
