/- What ranked of package gaugehousekeep answers: numbers added one by one. Conditions: the row lies in its cells. -/
import Derived.Test.YthofijhjbaaokaaRkPut
namespace Go.Proofs.Ythofijhjbaaokaa
open Go.RowKit

set_option maxRecDepth 1000000 in
set_option maxHeartbeats 4000000 in
theorem rEmpty_any (K : Int) (w : World) : Calls Try.prog 28 #[.int .i64 K] w
    (R1 (.tuple (if K < 2 ∨ 64 < K then #[zeroR, .int .i64 1] else #[.agg #[.int .i64 K, .slice none 0 0, .slice none 0 0, .int .i64 0, .int .i64 0], .int .i64 0])) (Below w.heap.size w)) := by
  by_cases h : K < 2 ∨ 64 < K
  · rw [if_pos h]
    rcases (show K < 2 ∨ (¬ K < 2 ∧ 64 < K) by omega) with h1 | ⟨h1, h2⟩
    all_goals
      clear h
      go_enter Try.func28, Try.ntmps28
      go_wp2_with fail
      refine bodyPost_ret (v := .tuple #[.agg #[.int .i64 0, .slice none 0 0, .slice none 0 0, .int .i64 0, .int .i64 0], .int .i64 1]) (by simp [results, Try.results28, go_sem, *]) rfl (R1.mk rfl ?_)
      exact (Below.refl _ _).alloc (Nat.le_refl _) _
  · rw [if_neg h]
    have h1 : ¬ K < 2 := by omega
    have h2 : ¬ 64 < K := by omega
    clear h
    go_enter Try.func28, Try.ntmps28
    go_wp2_with fail
    refine bodyPost_ret (v := .tuple #[.agg #[.int .i64 K, .slice none 0 0, .slice none 0 0, .int .i64 0, .int .i64 0], .int .i64 0]) (by simp [results, Try.results28, go_sem, *]) rfl (R1.mk rfl ?_)
    exact (Below.refl _ _).alloc (Nat.le_refl _) _

def RankedV (K : Int) (l : List Int) (w : World) (v : Value) (w' : World) : Prop :=
  ((∃ T L N S x, RkG K T L N S l ∧ L.length ≤ 20 ∧ v = .tuple #[x, .bool true] ∧ RkOwnV w' w.heap.size K T L N S x) ∨ (v = .tuple #[zeroR, .bool false] ∧ (K < 2 ∨ 64 < K ∨ 1000 < l.length))) ∧ Below w.heap.size w w'
/-- what the box holds while numbers are added -/
def RkLoop (w : World) (b g : Nat) (K : Int) (l : List Int) (E : Int) : Prop :=
  (E = 0 ∧ ∃ T L N S A c B e vs, RkG K T L N S l ∧ L.length ≤ 20 ∧ Blk w g 26 #[.int .i64 K, .slice A T.length c, .slice B L.length e, .int .i64 N, .int .i64 S] ∧ RkO w b (.slice A T.length c) T B e L vs) ∨
  (E ≠ 0 ∧ Blk w g 26 #[.int .i64 0, .slice none 0 0, .slice none 0 0, .int .i64 0, .int .i64 0] ∧ (K < 2 ∨ 64 < K ∨ 1000 < l.length))

set_option maxRecDepth 1000000 in
set_option maxHeartbeats 16000000 in
theorem ranked_any (K : Int) (A : Option Addr) (n c : Nat) (l : List Int) (hn : l.length = n) (hl : n ≤ 4000000000000000000) (hI : I64in l) (w : World) (h : Has w w.heap.size A (i64s l)) :
    Calls Try.prog 9 #[.int .i64 K, .slice A n c] w (RV (RankedV K l w)) := by
  have Hn := Lib.hid hn
  have HI := Lib.hid hI
  have hb1 : Below w.heap.size w (w.alloc (.cells #[.int .i64 0, .slice none 0 0, .slice none 0 0, .int .i64 0, .int .i64 0] 26)) := (Below.refl _ _).alloc (Nat.le_refl _) _
  have hk1 : Blk (w.alloc (.cells #[.int .i64 0, .slice none 0 0, .slice none 0 0, .int .i64 0, .int .i64 0] 26)) w.heap.size 26 #[.int .i64 0, .slice none 0 0, .slice none 0 0, .int .i64 0, .int .i64 0] := Blk.new _ _ _
  obtain ⟨P, hP⟩ : ∃ P, RankedV K l w = P := ⟨_, rfl⟩
  have HP := Lib.hid hP
  have HE := Lib.hid (rEmpty_any K (w.alloc (.cells #[.int .i64 0, .slice none 0 0, .slice none 0 0, .int .i64 0, .int .i64 0] 26)))
  rw [hP]
  clear hn hI hP
  have hE2 : ∃ a0 a1 a2 a3 a4 : Value, ∃ E : Int, (if K < 2 ∨ 64 < K then #[zeroR, Value.int .i64 1] else #[.agg #[.int .i64 K, .slice none 0 0, .slice none 0 0, .int .i64 0, .int .i64 0], .int .i64 0]) = #[.agg #[a0, a1, a2, a3, a4], .int .i64 E] ∧ (∃ k0 : Int, a0 = .int .i64 k0) ∧ a1 = .slice none 0 0 ∧ a2 = .slice none 0 0 ∧ a3 = .int .i64 0 ∧ a4 = .int .i64 0 ∧ (∀ w' b g, Blk w' g 26 #[a0, a1, a2, a3, a4] → RkLoop w' b g K [] E) := by
    by_cases hb : K < 2 ∨ 64 < K
    · rw [if_pos hb]
      exact ⟨_, _, _, _, _, 1, rfl, ⟨0, rfl⟩, rfl, rfl, rfl, rfl, fun w' b g hk => .inr ⟨by decide, hk, by omega⟩⟩
    · rw [if_neg hb]
      refine ⟨_, _, _, _, _, 0, rfl, ⟨K, rfl⟩, rfl, rfl, rfl, rfl, fun w' b g hk => .inl ⟨rfl, [], [], 0, 0, none, 0, none, 0, [], rkG_nil (by omega) (by omega), Nat.zero_le _, hk, ⟨IntOwn.nil _ _, World.ownsRow_nil _ _ _ _, fun k hk => by simp at hk⟩⟩⟩
  obtain ⟨_, _, _, _, _, E0, hif, ⟨k0, rfl⟩, rfl, rfl, rfl, rfl, hloop⟩ := hE2
  rw [hif] at HE
  have HLo := Lib.hid hloop
  clear hif hloop
  go_enter Try.func9, Try.ntmps9
  go_wp2_with fail
  refine HE.out.mono ?_
  rintro e9 w2 ⟨rfl, hb2⟩
  have hb02 := bnext hb1 hb2
  have hk2 := hk1.next hb2
  have hb3' : Below w2.heap.size w2 (w2.alloc (.cells #[.int .i64 k0, .slice none 0 0, .slice none 0 0, .int .i64 0, .int .i64 0] 26)) := (Below.refl _ _).alloc (Nat.le_refl _) _
  have hb3 := bnext hb02 hb3'
  have hk3 := hk2.next hb3'
  have hL3 := HLo.out _ w.heap.size w2.heap.size (Blk.new w2 26 #[.int .i64 k0, .slice none 0 0, .slice none 0 0, .int .i64 0, .int .i64 0])
  have hgs : w.heap.size < w2.heap.size := hk2.lt
  have HK3 := Lib.hid hk3
  have HL3 := Lib.hid hL3
  have HB3 := Lib.hid hb3
  clear hb1 hk1 hb2 hk2 hb3' hb3 hk3 hL3 hb02 HLo
  go_wp2_with fail
  obtain ⟨g, hg⟩ : ∃ g, w2.heap.size = g := ⟨_, rfl⟩
  rw [hg] at hgs
  obtain ⟨W3, hW3⟩ : ∃ W3, w2.alloc (.cells #[.int .i64 k0, .slice none 0 0, .slice none 0 0, .int .i64 0, .int .i64 0] 26) = W3 := ⟨_, rfl⟩
  rw [hW3] at HK3 HL3 HB3 ⊢
  rw [hg] at HL3 ⊢
  clear hW3 hg
  go_loopw [7, 17] (fun ev iv wr => ∃ (k : Nat) (E : Int), k ≤ n ∧ iv = .int .i64 (k : Nat) ∧ ev = .int .i64 E ∧ Hid (Blk wr w.heap.size 26 #[.int .i64 0, .slice none 0 0, .slice none 0 0, .int .i64 0, .int .i64 0]) ∧ Hid (RkLoop wr w.heap.size g K (l.take k) E) ∧ Below w.heap.size w wr ∧ g < wr.heap.size) (fun _ iv _ => n + 5 - (intOf iv).toNat)
  case atStart => exact ⟨0, E0, by omega, rfl, rfl, HK3, HL3, HB3.out, by rcases HL3.out with ⟨_, _, _, _, _, _, _, _, _, _, _, _, hk, _⟩ | ⟨_, hk, _⟩ <;> exact hk.lt⟩
  case round =>
    obtain ⟨k, E, hk, rfl, rfl, hK, hL, hbr, hgr⟩ := hrel
    by_cases hlt : (k : Int) < (n : Int)
    · obtain ⟨ad, rfl, had, c0⟩ := (h.next hbr).at (i64s_at (show k < l.length by rw [Hn.out]; omega))
      obtain ⟨v, hv⟩ : ∃ v, at_ l k = v := ⟨_, rfl⟩
      rw [hv] at c0
      have htk := Lib.hid (show l.take (k + 1) = l.take k ++ [v] from by rw [take_at (show k < l.length by rw [Hn.out]; omega), hv])
      have hvi := Lib.hid (show in64 v from by rw [← hv]; exact HI.out _ (at_mem (by rw [Hn.out]; omega)))
      clear hv
      rcases hL.out with ⟨rfl, T, L, N, S, A3, c3, B3, e3, vs3, hG, h20, hkg, hO⟩ | ⟨hE, hkg, hbad⟩
      · have y0 : wr.cell? ⟨g, 0, none⟩ = some (.int .i64 K) := hkg.cell 0
        have y1 : wr.cell? ⟨g, 1, none⟩ = some (.slice A3 T.length c3) := hkg.cell 1
        have y2 : wr.cell? ⟨g, 2, none⟩ = some (.slice B3 L.length e3) := hkg.cell 2
        have y3 : wr.cell? ⟨g, 3, none⟩ = some (.int .i64 N) := hkg.cell 3
        have y4 : wr.cell? ⟨g, 4, none⟩ = some (.int .i64 S) := hkg.cell 4
        have HA := Lib.hid (rAdd_any K T L N S (l.take k) hG h20 v hvi.out _ wr (hO.val (K := K) (N := N) (S := S)))
        have HKg := Lib.hid hkg
        clear hG hO hkg hL
        go_wp2_with fail
        refine HA.out.mono ?_
        rintro e9 w5 ⟨v5, rfl, hres, hb5⟩
        have hkg5 := HKg.out.next hb5
        have hK5 := hK.out.next hb5
        have hb05 := hbr.trans (hb5.mono hbr.size)
        have hgs5 : g < w5.heap.size := hkg5.lt
        clear y0 y1 y2 y3 y4
        have y0 : w5.cell? ⟨g, 0, none⟩ = some (.int .i64 K) := hkg5.cell 0
        have y1 : w5.cell? ⟨g, 1, none⟩ = some (.slice A3 T.length c3) := hkg5.cell 1
        have y2 : w5.cell? ⟨g, 2, none⟩ = some (.slice B3 L.length e3) := hkg5.cell 2
        have y3 : w5.cell? ⟨g, 3, none⟩ = some (.int .i64 N) := hkg5.cell 3
        have y4 : w5.cell? ⟨g, 4, none⟩ = some (.int .i64 S) := hkg5.cell 4
        have f0 : w5.frozen? ⟨g, 0, none⟩ = false := hkg5.frozen 0
        have f1 : w5.frozen? ⟨g, 1, none⟩ = false := hkg5.frozen 1
        have f2 : w5.frozen? ⟨g, 2, none⟩ = false := hkg5.frozen 2
        have f3 : w5.frozen? ⟨g, 3, none⟩ = false := hkg5.frozen 3
        have f4 : w5.frozen? ⟨g, 4, none⟩ = false := hkg5.frozen 4
        have hne : w.heap.size ≠ g := by omega
        have hfar : ∀ (x0 x1 x2 x3 x4 : Value), Blk (((((w5.setCell ⟨g, 0, none⟩ x0).setCell ⟨g, 1, none⟩ x1).setCell ⟨g, 2, none⟩ x2).setCell ⟨g, 3, none⟩ x3).setCell ⟨g, 4, none⟩ x4) w.heap.size 26 #[.int .i64 0, .slice none 0 0, .slice none 0 0, .int .i64 0, .int .i64 0] := fun x0 x1 x2 x3 x4 =>
          (Below.heap_setCell _ ⟨g, 4, none⟩ x4 _ hne).trans ((Below.heap_setCell _ ⟨g, 3, none⟩ x3 _ hne).trans ((Below.heap_setCell _ ⟨g, 2, none⟩ x2 _ hne).trans ((Below.heap_setCell _ ⟨g, 1, none⟩ x1 _ hne).trans ((Below.heap_setCell _ ⟨g, 0, none⟩ x0 _ hne).trans hK5))))
        have HFar := Lib.hid hfar
        have HKg5 := Lib.hid hkg5
        have HB5 := Lib.hid hb05
        clear hfar hK5 hb05 hb5 hkg5 HKg
        rcases hres with ⟨T', L', N', S', x', hG', h20', rfl, A6, c6, B6, e6, vs6, rfl, hO6⟩ | ⟨rfl, hmany⟩
        · have HG' := Lib.hid hG'
          have HO6 := Lib.hid hO6
          have H20 := Lib.hid h20'
          clear hG' hO6 h20'
          go_wp2_with fail
          go_roundw
          case rel => exact ⟨k + 1, 0, by omega, by go_num, rfl, Lib.hid (HFar.out _ _ _ _ _), Lib.hid (.inl ⟨rfl, T', L', N', S', A6, c6, B6, e6, vs6, by rw [htk.out]; exact HG'.out, H20.out, HKg5.out.put5 _ _ _ _ _, (HO6.out.less hbr.size).put5 HKg5.out _ _ _ _ _⟩), below_put5 HB5.out (by omega) _ _ _ _ _, by simp [World.setCell]; exact hgs5⟩
          case measure => simp [intOf]; omega
        · have HM := Lib.hid hmany
          clear hmany
          simp only [zeroR]
          go_wp2_with fail
          go_roundw
          case rel => exact ⟨k + 1, 2, by omega, by go_num, rfl, Lib.hid (HFar.out _ _ _ _ _), Lib.hid (.inr ⟨by decide, HKg5.out.put5 _ _ _ _ _, .inr (.inr (by rw [htk.out]; exact HM.out))⟩), below_put5 HB5.out (by omega) _ _ _ _ _, by simp [World.setCell]; exact hgs5⟩
          case measure => simp [intOf]; omega
      · have hEb : (E == 0) = false := by rw [beq_eq_false_iff_ne]; exact hE
        have HKg := Lib.hid hkg
        have Hbad := Lib.hid hbad
        have HE' := Lib.hid hE
        clear hkg hbad hE hL
        go_wp2_with fail
        go_roundw
        case rel => exact ⟨k + 1, E, by omega, by go_num, rfl, hK, Lib.hid (.inr ⟨HE'.out, HKg.out, by have := Hbad.out; rw [htk.out, List.length_append]; simp at this ⊢; omega⟩), hbr, hgr⟩
        case measure => simp [intOf]; omega
    · have hkn : k = n := by omega
      subst hkn
      have hLl : RkLoop wr w.heap.size g K l E := by have := hL.out; rwa [← Hn.out, List.take_length] at this
      have f0 : wr.frozen? ⟨w.heap.size, 0, none⟩ = false := hK.out.frozen 0
      have f1 : wr.frozen? ⟨w.heap.size, 1, none⟩ = false := hK.out.frozen 1
      have f2 : wr.frozen? ⟨w.heap.size, 2, none⟩ = false := hK.out.frozen 2
      have f3 : wr.frozen? ⟨w.heap.size, 3, none⟩ = false := hK.out.frozen 3
      have f4 : wr.frozen? ⟨w.heap.size, 4, none⟩ = false := hK.out.frozen 4
      have z0 : wr.cell? ⟨w.heap.size, 0, none⟩ = some (.int .i64 0) := hK.out.cell 0
      have z1 : wr.cell? ⟨w.heap.size, 1, none⟩ = some (.slice none 0 0) := hK.out.cell 1
      have z2 : wr.cell? ⟨w.heap.size, 2, none⟩ = some (.slice none 0 0) := hK.out.cell 2
      have z3 : wr.cell? ⟨w.heap.size, 3, none⟩ = some (.int .i64 0) := hK.out.cell 3
      have z4 : wr.cell? ⟨w.heap.size, 4, none⟩ = some (.int .i64 0) := hK.out.cell 4
      clear hL
      rcases hLl with ⟨rfl, T, L, N, S, A3, c3, B3, e3, vs3, hG, h20, hkg, hO⟩ | ⟨hE, hkg, hbad⟩
      · have y0 : wr.cell? ⟨g, 0, none⟩ = some (.int .i64 K) := hkg.cell 0
        have y1 : wr.cell? ⟨g, 1, none⟩ = some (.slice A3 T.length c3) := hkg.cell 1
        have y2 : wr.cell? ⟨g, 2, none⟩ = some (.slice B3 L.length e3) := hkg.cell 2
        have y3 : wr.cell? ⟨g, 3, none⟩ = some (.int .i64 N) := hkg.cell 3
        have y4 : wr.cell? ⟨g, 4, none⟩ = some (.int .i64 S) := hkg.cell 4
        have HG := Lib.hid hG
        have HO := Lib.hid hO
        have H20 := Lib.hid h20
        clear hG hO h20 hkg
        go_wp2_with fail
        refine bodyPost_ret (v := .tuple #[.agg #[.int .i64 K, .slice A3 T.length c3, .slice B3 L.length e3, .int .i64 N, .int .i64 S], .bool true]) (by simp [results, Try.results9, go_sem, *]) rfl (RV.mk ?_)
        rw [← HP.out]
        exact ⟨.inl ⟨T, L, N, S, _, HG.out, H20.out, rfl, _, _, _, _, _, rfl, HO.out.put5 hK.out _ _ _ _ _⟩, below_put5 hbr (Nat.le_refl _) _ _ _ _ _⟩
      · have y0 : wr.cell? ⟨g, 0, none⟩ = some (.int .i64 0) := hkg.cell 0
        have y1 : wr.cell? ⟨g, 1, none⟩ = some (.slice none 0 0) := hkg.cell 1
        have y2 : wr.cell? ⟨g, 2, none⟩ = some (.slice none 0 0) := hkg.cell 2
        have y3 : wr.cell? ⟨g, 3, none⟩ = some (.int .i64 0) := hkg.cell 3
        have y4 : wr.cell? ⟨g, 4, none⟩ = some (.int .i64 0) := hkg.cell 4
        have hEb : (E == 0) = false := by rw [beq_eq_false_iff_ne]; exact hE
        have Hbad := Lib.hid hbad
        clear hbad hkg hE
        go_wp2_with fail
        refine bodyPost_ret (v := .tuple #[.agg #[.int .i64 0, .slice none 0 0, .slice none 0 0, .int .i64 0, .int .i64 0], .bool false]) (by simp [results, Try.results9, go_sem, *]) rfl (RV.mk ?_)
        rw [← HP.out]
        exact ⟨.inr ⟨rfl, Hbad.out⟩, below_put5 hbr (Nat.le_refl _) _ _ _ _ _⟩
end Go.Proofs.Ythofijhjbaaokaa
