/- What bounded and Add of package rank answer. Conditions: the rank was added to, one by one. -/
import Derived.Test.YthofijhjbaaokaaRkGood
namespace Go.Proofs.Ythofijhjbaaokaa
open Go.RowKit

theorem Blk.put5 {w : World} {g : Nat} {t : TypeId} {a0 a1 a2 a3 a4 : Value} (hk : Blk w g t #[a0, a1, a2, a3, a4]) (x0 x1 x2 x3 x4 : Value) :
    Blk (((((w.setCell ⟨g, 0, none⟩ x0).setCell ⟨g, 1, none⟩ x1).setCell ⟨g, 2, none⟩ x2).setCell ⟨g, 3, none⟩ x3).setCell ⟨g, 4, none⟩ x4) g t #[x0, x1, x2, x3, x4] := by
  have h0 : Blk (w.setCell ⟨g, 0, none⟩ x0) g t #[x0, a1, a2, a3, a4] := hk.set 0 x0
  have h1 : Blk ((w.setCell ⟨g, 0, none⟩ x0).setCell ⟨g, 1, none⟩ x1) g t #[x0, x1, a2, a3, a4] := h0.set 1 x1
  have h2 : Blk (((w.setCell ⟨g, 0, none⟩ x0).setCell ⟨g, 1, none⟩ x1).setCell ⟨g, 2, none⟩ x2) g t #[x0, x1, x2, a3, a4] := h1.set 2 x2
  have h3 : Blk ((((w.setCell ⟨g, 0, none⟩ x0).setCell ⟨g, 1, none⟩ x1).setCell ⟨g, 2, none⟩ x2).setCell ⟨g, 3, none⟩ x3) g t #[x0, x1, x2, x3, a4] := h2.set 3 x3
  exact h3.set 4 x4
/-- a rank that lies in its cells -/
def RkVal (w : World) (K : Int) (T : List Int) (L : List (List Int)) (N S : Int) (v : Value) : Prop :=
  ∃ A c B e vs, v = .agg #[.int .i64 K, .slice A T.length c, .slice B L.length e, .int .i64 N, .int .i64 S] ∧ IntAt w (.slice A T.length c) T ∧ L.length ≤ e ∧ e ≤ maxLen ∧ Has w w.heap.size B vs ∧ IntsAt w vs L
theorem RkVal.next {w w' : World} {K : Int} {T : List Int} {L : List (List Int)} {N S : Int} {v : Value} (h : RkVal w K T L N S v) (hb : Below w.heap.size w w') : RkVal w' K T L N S v := by
  obtain ⟨A, c, B, e, vs, h1, h2, h3, h4, h5, h6⟩ := h
  exact ⟨A, c, B, e, vs, h1, h2.next hb, h3, h4, h5.next hb, h6.next hb⟩
theorem RkO.val {w : World} {b : Nat} {K : Int} {tv : Value} {T : List Int} {B : Option Addr} {e : Nat} {L : List (List Int)} {vs : List Value} {N S : Int} (h : RkO w b tv T B e L vs) : RkVal w K T L N S (.agg #[.int .i64 K, tv, .slice B L.length e, .int .i64 N, .int .i64 S]) := by
  obtain ⟨h1, h2, h3, h4, h5⟩ := h.inp
  obtain ⟨A, c, rfl, h6, h7⟩ := h.t
  exact ⟨A, c, B, e, vs, rfl, h1, h2, h3, h4, h5⟩
def RkOwnV (w : World) (b : Nat) (K : Int) (T : List Int) (L : List (List Int)) (N S : Int) (v : Value) : Prop :=
  ∃ A c B e vs, v = .agg #[.int .i64 K, .slice A T.length c, .slice B L.length e, .int .i64 N, .int .i64 S] ∧ RkO w b (.slice A T.length c) T B e L vs
def zeroR : Value := .agg #[.int .i64 0, .slice none 0 0, .slice none 0 0, .int .i64 0, .int .i64 0]

set_option maxRecDepth 1000000 in
set_option maxHeartbeats 4000000 in
theorem bounded_any (K : Int) (A : Option Addr) (n c : Nat) (B : Option Addr) (m e : Nat) (N S : Int) (hS : S ≤ 1152921504606846976) (w : World) :
    Calls Try.prog 34 #[.agg #[.int .i64 K, Value.slice A n c, .slice B m e, .int .i64 N, .int .i64 S]] w
      (R1 (.tuple (if m ≤ 20 then #[.agg #[.int .i64 K, Value.slice A n c, .slice B m e, .int .i64 N, .int .i64 S], .int .i64 0] else #[zeroR, .int .i64 2])) (Below w.heap.size w)) := by
  have hb2 : Below w.heap.size w ((w.alloc (.cells #[.int .i64 K, Value.slice A n c, .slice B m e, .int .i64 N, .int .i64 S] 26)).alloc (.cells #[.int .i64 0, .slice none 0 0, .slice none 0 0, .int .i64 0, .int .i64 0] 26)) := ((Below.refl _ _).alloc (Nat.le_refl _) _).alloc (by simp) _
  by_cases hm : m ≤ 20
  · rw [if_pos hm]
    have hm' : ¬ (20 : Int) < (m : Int) := by omega
    have hS' : ¬ (1152921504606846976 : Int) < S := by omega
    go_enter Try.func34, Try.ntmps34
    go_wp2_with fail
    refine bodyPost_ret (v := .tuple #[.agg #[.int .i64 K, Value.slice A n c, .slice B m e, .int .i64 N, .int .i64 S], .int .i64 0]) (by simp [results, Try.results34, go_sem, *]) rfl (R1.mk rfl ?_)
    exact ((Below.refl _ _).alloc (Nat.le_refl _) _).alloc (by simp) _
  · rw [if_neg hm]
    have hm' : (20 : Int) < (m : Int) := by omega
    go_enter Try.func34, Try.ntmps34
    go_wp2_with fail
    refine bodyPost_ret (v := .tuple #[.agg #[.int .i64 0, .slice none 0 0, .slice none 0 0, .int .i64 0, .int .i64 0], .int .i64 2]) (by simp [results, Try.results34, go_sem, *]) rfl (R1.mk rfl ?_)
    exact ((Below.refl _ _).alloc (Nat.le_refl _) _).alloc (by simp) _

/-- what Add answers -/
def AddV (K : Int) (l : List Int) (w : World) (v : Value) (w' : World) : Prop :=
  ((∃ T L N S x, RkG K T L N S l ∧ L.length ≤ 20 ∧ v = .tuple #[x, .int .i64 0] ∧ RkOwnV w' w.heap.size K T L N S x) ∨ (v = .tuple #[zeroR, .int .i64 2] ∧ 1000 < l.length)) ∧ Below w.heap.size w w'

set_option maxRecDepth 1000000 in
set_option maxHeartbeats 16000000 in
theorem rAdd_any (K : Int) (T : List Int) (L : List (List Int)) (N S : Int) (l : List Int) (hG : RkG K T L N S l) (hL : L.length ≤ 20) (v : Int) (hv : in64 v) (x : Value) (w : World) (hx : RkVal w K T L N S x) :
    Calls Try.prog 29 #[x, .int .i64 v] w (RV (AddV K (l ++ [v]) w)) := by
  obtain ⟨A, c, B, e, vs, rfl, hT, hLe, hem, hB, hLs⟩ := hx
  have hb2 : Below w.heap.size w ((w.alloc (.cells #[.int .i64 K, .slice A T.length c, .slice B L.length e, .int .i64 N, .int .i64 S] 26)).alloc (.cells #[.int .i64 0, .slice none 0 0, .slice none 0 0, .int .i64 0, .int .i64 0] 26)) := ((Below.refl _ _).alloc (Nat.le_refl _) _).alloc (by simp) _
  have hk2 : Blk ((w.alloc (.cells #[.int .i64 K, .slice A T.length c, .slice B L.length e, .int .i64 N, .int .i64 S] 26)).alloc (.cells #[.int .i64 0, .slice none 0 0, .slice none 0 0, .int .i64 0, .int .i64 0] 26)) w.heap.size 26 #[.int .i64 K, .slice A T.length c, .slice B L.length e, .int .i64 N, .int .i64 S] := (Blk.new w _ _).alloc _
  have hr2 : Blk ((w.alloc (.cells #[.int .i64 K, .slice A T.length c, .slice B L.length e, .int .i64 N, .int .i64 S] 26)).alloc (.cells #[.int .i64 0, .slice none 0 0, .slice none 0 0, .int .i64 0, .int .i64 0] 26)) (w.heap.size + 1) 26 #[.int .i64 0, .slice none 0 0, .slice none 0 0, .int .i64 0, .int .i64 0] := by
    have := Blk.new (w.alloc (.cells #[.int .i64 K, .slice A T.length c, .slice B L.length e, .int .i64 N, .int .i64 S] 26)) 26 #[.int .i64 0, .slice none 0 0, .slice none 0 0, .int .i64 0, .int .i64 0]
    rwa [World.size_alloc] at this
  have hK : in64 K := ⟨by have := hG.k2; omega, by have := hG.k64; omega⟩
  have h64 : ∀ k, k < L.length → (at_ L k).length ≤ 64 := fun k _ => by
    have := hG.k64
    rcases hG.row k with h1 | h1
    · omega
    · rw [h1]; simp
  have hT64 : T.length ≤ 64 := by have := hG.tk; have := hG.k64; omega
  have HCk := Lib.hid (rcheck_any K hK A c T B e L vs N S hLe hem _ (hT.next hb2) (hB.next hb2) (hLs.next hb2) (by omega))
  rw [hG.chk hL] at HCk
  have HOw := Lib.hid (fun (w' : World) (hb : Below w.heap.size w w') => own_any K A c T B e L vs N S hLe hem (by omega) hT64 h64 w' (hT.next hb) (hB.next hb) (hLs.next hb))
  have HAd := Lib.hid (fun (tv : Value) (B : Option Addr) (e : Nat) (vs : List Value) (w' : World) (hb : w.heap.size ≤ w'.heap.size) h => radd_any w.heap.size w.heap.size (fun q t cs => q = w.heap.size + 1 ∧ t = 26 ∧ cs = #[.int .i64 0, .slice none 0 0, .slice none 0 0, .int .i64 0, .int .i64 0]) K tv T N B e L vs S v hv hG.st hG.tk hG.k64 (by omega) h64 hG.nle.1 (by have := hG.nle.2; omega) hG.slack.1 (by have := hG.slack.2; omega) w' hb h)
  have HG := Lib.hid hG
  have Hb2 := Lib.hid hb2
  obtain ⟨P, hP⟩ : ∃ P, AddV K (l ++ [v]) w = P := ⟨_, rfl⟩
  have HP := Lib.hid hP
  rw [hP]
  clear hP hG hT hB hLs hT64 h64 hK hb2
  go_enter Try.func29, Try.ntmps29
  go_wp2_with fail
  refine HCk.out.mono ?_
  rintro e9 w3 ⟨rfl, hb3⟩
  have hb03 : Below w.heap.size w w3 := bnext Hb2.out hb3
  have hk3 := hk2.next hb3
  have hr3 := hr2.next hb3
  have y0 : w3.cell? ⟨w.heap.size, 0, none⟩ = some (.int .i64 K) := hk3.cell 0
  have y1 : w3.cell? ⟨w.heap.size, 1, none⟩ = some (.slice A T.length c) := hk3.cell 1
  have y2 : w3.cell? ⟨w.heap.size, 2, none⟩ = some (.slice B L.length e) := hk3.cell 2
  have y3 : w3.cell? ⟨w.heap.size, 3, none⟩ = some (.int .i64 N) := hk3.cell 3
  have y4 : w3.cell? ⟨w.heap.size, 4, none⟩ = some (.int .i64 S) := hk3.cell 4
  clear hk2 hr2 HCk
  go_wp2_with fail
  refine (HOw.out _ hb03).mono ?_
  rintro e9 w4 ⟨v4, rfl, ⟨tv4, B4, e4, vs4, rfl, hO4⟩, hb4⟩
  have hb04 : Below w.heap.size w w4 := bnext hb03 hb4
  obtain ⟨A4, c4, rfl, _, _⟩ := hO4.t
  have hk4 := hk3.next hb4
  have hr4 := hr3.next hb4
  clear y0 y1 y2 y3 y4
  have f0 : w4.frozen? ⟨w.heap.size, 0, none⟩ = false := hk4.frozen 0
  have f1 : w4.frozen? ⟨w.heap.size, 1, none⟩ = false := hk4.frozen 1
  have f2 : w4.frozen? ⟨w.heap.size, 2, none⟩ = false := hk4.frozen 2
  have f3 : w4.frozen? ⟨w.heap.size, 3, none⟩ = false := hk4.frozen 3
  have f4 : w4.frozen? ⟨w.heap.size, 4, none⟩ = false := hk4.frozen 4
  have y0 : w4.cell? ⟨w.heap.size, 0, none⟩ = some (.int .i64 K) := hk4.cell 0
  have y1 : w4.cell? ⟨w.heap.size, 1, none⟩ = some (.slice A T.length c) := hk4.cell 1
  have y2 : w4.cell? ⟨w.heap.size, 2, none⟩ = some (.slice B L.length e) := hk4.cell 2
  have y3 : w4.cell? ⟨w.heap.size, 3, none⟩ = some (.int .i64 N) := hk4.cell 3
  have y4 : w4.cell? ⟨w.heap.size, 4, none⟩ = some (.int .i64 S) := hk4.cell 4
  have hk5 := hk4.put5 (.int .i64 K) (.slice A4 T.length c4) (.slice B4 L.length e4) (.int .i64 N) (.int .i64 S)
  have hO5 := (hO4.less hb03.size).put5 hk4 (.int .i64 K) (.slice A4 T.length c4) (.slice B4 L.length e4) (.int .i64 N) (.int .i64 S)
  have hne5 : w.heap.size + 1 ≠ w.heap.size := by omega
  have hr5 := (((((hr4.nb hne5 0 (.int .i64 K)).nb hne5 1 (.slice A4 T.length c4)).nb hne5 2 (.slice B4 L.length e4)).nb hne5 3 (.int .i64 N)).nb hne5 4 (.int .i64 S))
  have hb5 := below_put5 hb04 (Nat.le_refl _) (.int .i64 K) (.slice A4 T.length c4) (.slice B4 L.length e4) (.int .i64 N) (.int .i64 S)
  have HR5 := Lib.hid (hO5.s (O := fun q t cs => q = w.heap.size + 1 ∧ t = 26 ∧ cs = #[.int .i64 0, .slice none 0 0, .slice none 0 0, .int .i64 0, .int .i64 0]) (K := K) (N := N) (S := S) hk5 (Nat.le_refl _) (fun q t cs he => by obtain ⟨rfl, rfl, rfl⟩ := he; exact ⟨hr5, hne5, hO5.t.neBlk hr5 (by decide), own_neR hr5 hO5.l (by decide)⟩))
  have HB5 := Lib.hid hb5
  clear hk3 hr3 hb3 hk4 hr4 hb4 hk5 hO5 hr5 hb5 hO4
  go_wp2_with fail
  refine (HAd.out _ _ _ _ _ HB5.out.size HR5.out).mono ?_
  rintro e9 w6 ⟨rfl, T', L', S', tv', B', e', vs', hA, hR6, hb6⟩
  obtain ⟨hG6, _⟩ := addR_good HG.out hL hA
  obtain ⟨A6, c6, rfl, _, _⟩ := hR6.t
  have hr6 := (hR6.o _ _ _ ⟨rfl, rfl, rfl⟩).1
  have hb06 := HB5.out.trans hb6
  clear y0 y1 y2 y3 y4 f0 f1 f2 f3 f4
  obtain ⟨y0, y1, y2, y3, y4⟩ := hR6.y
  obtain ⟨m, hm⟩ : ∃ m, L'.length = m := ⟨_, rfl⟩
  have Hm := Lib.hid hm
  have HO6 := Lib.hid hR6.rows
  have HG6 := Lib.hid hG6
  have hBo := Lib.hid (bounded_any K A6 T'.length c6 B' m e' (N + 1) S' hG6.slack.2 w6)
  rw [hm] at y2
  clear hA hR6 hm hG6
  go_wp2_with fail
  by_cases h20 : m ≤ 20
  · rw [if_pos h20] at hBo
    refine hBo.out.mono ?_
    rintro e9 w7 ⟨rfl, hb7⟩
    have hr7 := hr6.next hb7
    have hb07 := hb06.trans (hb7.mono hb06.size)
    have g0 : w7.frozen? ⟨w.heap.size + 1, 0, none⟩ = false := hr7.frozen 0
    have g1 : w7.frozen? ⟨w.heap.size + 1, 1, none⟩ = false := hr7.frozen 1
    have g2 : w7.frozen? ⟨w.heap.size + 1, 2, none⟩ = false := hr7.frozen 2
    have g3 : w7.frozen? ⟨w.heap.size + 1, 3, none⟩ = false := hr7.frozen 3
    have g4 : w7.frozen? ⟨w.heap.size + 1, 4, none⟩ = false := hr7.frozen 4
    have z0 : w7.cell? ⟨w.heap.size + 1, 0, none⟩ = some (.int .i64 0) := hr7.cell 0
    have z1 : w7.cell? ⟨w.heap.size + 1, 1, none⟩ = some (.slice none 0 0) := hr7.cell 1
    have z2 : w7.cell? ⟨w.heap.size + 1, 2, none⟩ = some (.slice none 0 0) := hr7.cell 2
    have z3 : w7.cell? ⟨w.heap.size + 1, 3, none⟩ = some (.int .i64 0) := hr7.cell 3
    have z4 : w7.cell? ⟨w.heap.size + 1, 4, none⟩ = some (.int .i64 0) := hr7.cell 4
    have HO7 := Lib.hid (HO6.out.next hb7)
    have HR7 := Lib.hid hr7
    have HB7 := Lib.hid hb07
    clear hr6 hb06 hr7 hb07 hb7 hb6 y0 y1 y2 y3 y4
    go_wp2_with fail
    refine bodyPost_ret (v := .tuple #[.agg #[.int .i64 K, .slice A6 T'.length c6, .slice B' m e', .int .i64 (N + 1), .int .i64 S'], .int .i64 0]) (by simp [results, Try.results29, go_sem, *]) rfl (RV.mk ?_)
    rw [← HP.out]
    refine ⟨.inl ⟨T', L', N + 1, S', _, HG6.out, by rw [Hm.out]; exact h20, rfl, ?_⟩, below_put5 HB7.out (Nat.le_succ _) _ _ _ _ _⟩
    rw [← Hm.out]
    exact ⟨_, _, _, _, _, rfl, HO7.out.put5 HR7.out _ _ _ _ _⟩
  · rw [if_neg h20] at hBo
    refine hBo.out.mono ?_
    rintro e9 w7 ⟨rfl, hb7⟩
    have hr7 := hr6.next hb7
    have hb07 := hb06.trans (hb7.mono hb06.size)
    have g0 : w7.frozen? ⟨w.heap.size + 1, 0, none⟩ = false := hr7.frozen 0
    have g1 : w7.frozen? ⟨w.heap.size + 1, 1, none⟩ = false := hr7.frozen 1
    have g2 : w7.frozen? ⟨w.heap.size + 1, 2, none⟩ = false := hr7.frozen 2
    have g3 : w7.frozen? ⟨w.heap.size + 1, 3, none⟩ = false := hr7.frozen 3
    have g4 : w7.frozen? ⟨w.heap.size + 1, 4, none⟩ = false := hr7.frozen 4
    have z0 : w7.cell? ⟨w.heap.size + 1, 0, none⟩ = some (.int .i64 0) := hr7.cell 0
    have z1 : w7.cell? ⟨w.heap.size + 1, 1, none⟩ = some (.slice none 0 0) := hr7.cell 1
    have z2 : w7.cell? ⟨w.heap.size + 1, 2, none⟩ = some (.slice none 0 0) := hr7.cell 2
    have z3 : w7.cell? ⟨w.heap.size + 1, 3, none⟩ = some (.int .i64 0) := hr7.cell 3
    have z4 : w7.cell? ⟨w.heap.size + 1, 4, none⟩ = some (.int .i64 0) := hr7.cell 4
    have HB7 := Lib.hid hb07
    have hmany := Lib.hid (HG6.out.many (by rw [Hm.out]; omega))
    clear hr6 hb06 hr7 hb07 hb7 hb6 y0 y1 y2 y3 y4
    simp only [zeroR]
    go_wp2_with fail
    refine bodyPost_ret (v := .tuple #[.agg #[.int .i64 0, .slice none 0 0, .slice none 0 0, .int .i64 0, .int .i64 0], .int .i64 2]) (by simp [results, Try.results29, go_sem, *]) rfl (RV.mk ?_)
    rw [← HP.out]
    exact ⟨.inr ⟨rfl, hmany.out⟩, below_put5 HB7.out (Nat.le_succ _) _ _ _ _ _⟩
end Go.Proofs.Ythofijhjbaaokaa
