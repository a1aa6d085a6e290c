/- slices.IndexFunc of claims, whatever function it asks. Conditions: the function's own contract. -/
import Derived.Test.YtokilodekbjpnaaMergeC
namespace Go.Proofs.Ytokilodekbjpnaa
open Go.RowKit

/-- the first place where the question is answered yes -/
def IdxP (g : Nat → Bool) (n : Nat) (v : Value) : Prop := ∃ r : Int, v = .int .i64 r ∧ ((r = -1 ∧ ∀ q, q < n → g q = false) ∨ ∃ i : Nat, i < n ∧ r = (i : Int) ∧ g i = true)

set_option maxRecDepth 1000000 in
set_option maxHeartbeats 4000000 in
theorem idxC_any (F : FuncId) (hcf : ∀ (args : Array Value) (w : World), (callFunc F args).run Try.prog w = .ok (.enter F args) w) (pa : Value) (g : Nat → Bool) (A : Option Addr) (n c : Nat) (L : List ClE) (hn : L.length = n) (hl : n ≤ 140737488355328) (w : World) (h : Has w w.heap.size A (clCs L))
    (hF : ∀ j, j < n → ∀ w', Below w.heap.size w w' → Calls Try.prog F #[.agg (clA4 (at_ L j)), pa] w' (R1 (.bool (g j)) (Below w'.heap.size w'))) :
    Calls Try.prog 12 #[.slice A n c, .func (.func F) #[] #[pa]] w (RV fun v w' => IdxP g n v ∧ Below w.heap.size w w') := by
  have HF := Lib.hid hF; clear hF
  have Hn := Lib.hid hn; clear hn
  go_enter Try.func12, Try.ntmps12
  go_wp2_with fail
  go_loopw [8] (fun i wr => ∃ j : Nat, j ≤ n ∧ i = .int .i64 (j : Nat) ∧ Hid (∀ q, q < j → g q = false) ∧ Below w.heap.size w wr) (fun i _ => n - (intOf i).toNat)
  case atStart => exact ⟨0, by omega, rfl, Lib.hid (fun q hq => by omega), Below.refl _ _⟩
  case round =>
    obtain ⟨j, hj, rfl, hno, hbr⟩ := hrel
    by_cases hlt : (j : Int) < (n : Int)
    · have l1 := Lib.hid (show j < L.length by rw [Hn.out]; omega)
      obtain ⟨ad, rfl, had, c0, c1, c2, c3⟩ := (h.below hbr).clAt l1.out
      have HC := Lib.hid (HF.out j (by omega) wr hbr)
      obtain ⟨p, hp⟩ : ∃ p, at_ L j = p := ⟨_, rfl⟩
      rw [hp] at c0 c1 c2 c3 HC
      clear hp
      cases hg : g j
      · rw [hg] at HC
        have Hg := Lib.hid hg; clear hg
        go_wp2_with fail
        refine (HC.out).mono ?_
        rintro e w1 ⟨rfl, hb1⟩
        go_wp2_with fail
        go_roundw
        case rel =>
          refine ⟨j + 1, by omega, by go_num, Lib.hid (fun q hq => ?_), bnext hbr hb1⟩
          rcases Nat.lt_or_ge q j with h1 | h1
          · exact hno.out q h1
          · rw [show q = j by omega]; exact Hg.out
        case measure => simp [intOf]; omega
      · rw [hg] at HC
        have Hg := Lib.hid hg; clear hg
        go_wp2_with fail
        refine (HC.out).mono ?_
        rintro e w1 ⟨rfl, hb1⟩
        go_wp2_with fail
        go_ret
        exact RV.mk ⟨⟨_, rfl, .inr ⟨j, by omega, rfl, Hg.out⟩⟩, bnext hbr hb1⟩
    · go_wp2_with fail
      go_ret
      exact RV.mk ⟨⟨_, rfl, .inl ⟨rfl, fun q hq => hno.out q (by omega)⟩⟩, hbr⟩

end Go.Proofs.Ytokilodekbjpnaa
