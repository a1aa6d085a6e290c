/- slices.IndexFunc of claims, whatever function it asks. Conditions: the function's own contract. -/
import Derived.Test.YtkkadfjcnocopaaConcC
namespace Go.Proofs.Ytkkadfjcnocopaa
open Go.RowKit

/-- the first place where the question is answered yes -/
def IdxP (g : Nat → Bool) (n : Nat) (v : Value) : Prop := ∃ r : Int, v = .int .i64 r ∧ ((r = -1 ∧ ∀ q, q < n → g q = false) ∨ ∃ i : Nat, i < n ∧ r = (i : Int) ∧ g i = true)

set_option maxRecDepth 1000000 in
set_option maxHeartbeats 4000000 in
theorem idxC_any (F : FuncId) (hcf : ∀ (args : Array Value) (w : World), (callFunc F args).run Try.prog w = .ok (.enter F args) w) (pa : Value) (g : Nat → Bool) (A : Option Addr) (n c : Nat) (L : List ClE) (hn : L.length = n) (hl : n ≤ 1000) (w : World) (h : Has w w.heap.size A (clCs L))
    (hF : ∀ j, j < n → ∀ w', Below w.heap.size w w' → Calls Try.prog F #[.agg (clA4 (at_ L j)), pa] w' (R1 (.bool (g j)) (Below w'.heap.size w'))) :
    Calls Try.prog 37 #[.slice A n c, .func (.func F) #[] #[pa]] w (RV fun v w' => IdxP g n v ∧ Below w.heap.size w w') := by
  have HF := Lib.hid hF; clear hF
  have Hn := Lib.hid hn; clear hn
  go_enter Try.func37, Try.ntmps37
  go_wp2_with fail
  go_loopw [8] (fun i wr => ∃ j : Nat, j ≤ n ∧ i = .int .i64 (j : Nat) ∧ Hid (∀ q, q < j → g q = false) ∧ Below w.heap.size w wr) (fun i _ => n - (intOf i).toNat)
  case atStart => exact ⟨0, by omega, rfl, Lib.hid (fun q hq => by omega), Below.refl _ _⟩
  case round =>
    obtain ⟨j, hj, rfl, hno, hbr⟩ := hrel
    by_cases hlt : (j : Int) < (n : Int)
    · have l1 := Lib.hid (show j < L.length by rw [Hn.out]; omega)
      obtain ⟨ad, rfl, had, c0, c1, c2, c3⟩ := (h.below hbr).clAt l1.out
      have HC := Lib.hid (HF.out j (by omega) wr hbr)
      obtain ⟨p, hp⟩ : ∃ p, at_ L j = p := ⟨_, rfl⟩
      rw [hp] at c0 c1 c2 c3 HC
      clear hp
      cases hg : g j
      · rw [hg] at HC
        have Hg := Lib.hid hg; clear hg
        go_wp2_with fail
        refine (HC.out).mono ?_
        rintro e w1 ⟨rfl, hb1⟩
        go_wp2_with fail
        go_roundw
        case rel =>
          refine ⟨j + 1, by omega, by go_num, Lib.hid (fun q hq => ?_), bnext hbr hb1⟩
          rcases Nat.lt_or_ge q j with h1 | h1
          · exact hno.out q h1
          · rw [show q = j by omega]; exact Hg.out
        case measure => simp [intOf]; omega
      · rw [hg] at HC
        have Hg := Lib.hid hg; clear hg
        go_wp2_with fail
        refine (HC.out).mono ?_
        rintro e w1 ⟨rfl, hb1⟩
        go_wp2_with fail
        go_ret
        exact RV.mk ⟨⟨_, rfl, .inr ⟨j, by omega, rfl, Hg.out⟩⟩, bnext hbr hb1⟩
    · go_wp2_with fail
      go_ret
      exact RV.mk ⟨⟨_, rfl, .inl ⟨rfl, fun q hq => hno.out q (by omega)⟩⟩, hbr⟩

set_option maxRecDepth 1000000 in
set_option maxHeartbeats 4000000 in
/-- is it the name of the claim that the closure holds? -/
theorem upc1_any (y : ClE) (g : Nat) (nm : ByteArray) (w : World) (hg : g < w.heap.size) (c2 : w.cell? ⟨g, 2, none⟩ = some (.string nm)) :
    Calls Try.prog 38 #[.agg (clA4 y), .pointer (some ⟨g, 0, none⟩)] w (R1 (.bool (decide (y.nm = nm))) (Below w.heap.size w)) := by
  have hbx : Below w.heap.size w (w.alloc (.cells (clA4 y) 54)) := one_alloc _ _
  have kc : Blk (w.alloc (.cells (clA4 y) 54)) w.heap.size 54 (clA4 y) := Blk.new _ _ _
  have y2 : (w.alloc (.cells (clA4 y) 54)).cell? ⟨w.heap.size, 2, none⟩ = some (.string y.nm) := kc.cell 2
  have z2 : (w.alloc (.cells (clA4 y) 54)).cell? ⟨g, 2, none⟩ = some (.string nm) := (hbx.cell (p := ⟨g, 2, none⟩) hg).trans c2
  obtain ⟨yn, hyn⟩ : ∃ yn, y.nm = yn := ⟨_, rfl⟩
  rw [hyn] at y2 ⊢
  by_cases hq : yn = nm
  · subst hq
    go_enter Try.func38, Try.ntmps38
    go_wp2_with fail
    go_ret
    exact R1.mk (bool_eq (by simp)) hbx
  · have dab := Lib.hid (show decide (yn = nm) = false from decide_eq_false hq)
    have hab' : ¬ yn.toList = nm.toList := fun h => hq (toList_eq h)
    clear hq
    go_enter Try.func38, Try.ntmps38
    go_wp2_with fail
    go_ret
    exact R1.mk (bool_eq (by rw [dab.out, beq_eq_false_iff_ne]; exact hab')) hbx
end Go.Proofs.Ytkkadfjcnocopaa
