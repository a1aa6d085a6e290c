/- slices.IndexFunc and ContainsFunc of rows of claims, whatever function they ask. Conditions: the function's own contract. -/
import Derived.Test.YtokilodekbjpnaaIdxK
import Derived.Test.YtokilodekbjpnaaSpread
namespace Go.Proofs.Ytokilodekbjpnaa
open Go.RowKit

def anyN (g : Nat → Bool) (n : Nat) : Bool := (List.range n).any g
theorem anyN_true {g : Nat → Bool} {n : Nat} : anyN g n = true ↔ ∃ q, q < n ∧ g q = true := by
  unfold anyN
  rw [List.any_eq_true]
  constructor
  · rintro ⟨x, h1, h2⟩; exact ⟨x, List.mem_range.1 h1, h2⟩
  · rintro ⟨x, h1, h2⟩; exact ⟨x, List.mem_range.2 h1, h2⟩
theorem IdxP.any {g : Nat → Bool} {n : Nat} {v : Value} (h : IdxP g n v) : ∃ r : Int, v = .int .i64 r ∧ decide (0 ≤ r) = anyN g n := by
  obtain ⟨r, rfl, h⟩ := h
  refine ⟨r, rfl, ?_⟩
  rcases h with ⟨rfl, h⟩ | ⟨i, hi, rfl, h⟩
  · rw [decide_eq_false (by omega)]
    symm
    rw [Bool.eq_false_iff]
    intro h1
    obtain ⟨q, h2, h3⟩ := anyN_true.1 h1
    rw [h q h2] at h3; cases h3
  · rw [decide_eq_true (by omega)]
    exact (anyN_true.2 ⟨i, hi, h⟩).symm

set_option maxRecDepth 1000000 in
set_option maxHeartbeats 4000000 in
theorem idxL_any (F : FuncId) (hcf : ∀ (args : Array Value) (w : World), (callFunc F args).run Try.prog w = .ok (.enter F args) w) (pa : Value) (g : Nat → Bool) (A : Option Addr) (n c : Nat) (LL : List LsE) (hn : LL.length = n) (hl : n ≤ 140737488355328) (w : World) (h : Has w w.heap.size A (lsCs LL))
    (hF : ∀ j, j < n → ∀ w', Below w.heap.size w w' → Calls Try.prog F #[(at_ LL j).v, pa] w' (R1 (.bool (g j)) (Below w'.heap.size w'))) :
    Calls Try.prog 49 #[.slice A n c, .func (.func F) #[] #[pa]] w (RV fun v w' => IdxP g n v ∧ Below w.heap.size w w') := by
  have HF := Lib.hid hF; clear hF
  have Hn := Lib.hid hn; clear hn
  go_enter Try.func49, Try.ntmps49
  go_wp2_with fail
  go_loopw [8] (fun i wr => ∃ j : Nat, j ≤ n ∧ i = .int .i64 (j : Nat) ∧ Hid (∀ q, q < j → g q = false) ∧ Below w.heap.size w wr) (fun i _ => n - (intOf i).toNat)
  case atStart => exact ⟨0, by omega, rfl, Lib.hid (fun q hq => by omega), Below.refl _ _⟩
  case round =>
    obtain ⟨j, hj, rfl, hno, hbr⟩ := hrel
    by_cases hlt : (j : Int) < (n : Int)
    · have l1 := Lib.hid (show j < LL.length by rw [Hn.out]; omega)
      obtain ⟨ad, rfl, had, c0⟩ := (h.below hbr).at (lsCs_at l1.out)
      have HC := Lib.hid (HF.out j (by omega) wr hbr)
      obtain ⟨p, hp⟩ : ∃ p, (at_ LL j).v = p := ⟨_, rfl⟩
      rw [hp] at c0 HC
      clear hp
      cases hg : g j
      · rw [hg] at HC
        have Hg := Lib.hid hg; clear hg
        go_wp2_with fail
        refine (HC.out).mono ?_
        rintro e w1 ⟨rfl, hb1⟩
        go_wp2_with fail
        go_roundw
        case rel =>
          refine ⟨j + 1, by omega, by go_num, Lib.hid (fun q hq => ?_), bnext hbr hb1⟩
          rcases Nat.lt_or_ge q j with h1 | h1
          · exact hno.out q h1
          · rw [show q = j by omega]; exact Hg.out
        case measure => simp [intOf]; omega
      · rw [hg] at HC
        have Hg := Lib.hid hg; clear hg
        go_wp2_with fail
        refine (HC.out).mono ?_
        rintro e w1 ⟨rfl, hb1⟩
        go_wp2_with fail
        go_ret
        exact RV.mk ⟨⟨_, rfl, .inr ⟨j, by omega, rfl, Hg.out⟩⟩, bnext hbr hb1⟩
    · go_wp2_with fail
      go_ret
      exact RV.mk ⟨⟨_, rfl, .inl ⟨rfl, fun q hq => hno.out q (by omega)⟩⟩, hbr⟩
set_option maxRecDepth 1000000 in
set_option maxHeartbeats 4000000 in
theorem conL_any (F : FuncId) (hcf : ∀ (args : Array Value) (w : World), (callFunc F args).run Try.prog w = .ok (.enter F args) w) (pa : Value) (g : Nat → Bool) (A : Option Addr) (n c : Nat) (LL : List LsE) (hn : LL.length = n) (hl : n ≤ 140737488355328) (w : World) (h : Has w w.heap.size A (lsCs LL)) {b : Bool} (hb : anyN g n = b)
    (hF : ∀ j, j < n → ∀ w', Below w.heap.size w w' → Calls Try.prog F #[(at_ LL j).v, pa] w' (R1 (.bool (g j)) (Below w'.heap.size w'))) :
    Calls Try.prog 15 #[.slice A n c, .func (.func F) #[] #[pa]] w (R1 (.bool b) (Below w.heap.size w)) := by
  have H := Lib.hid (idxL_any F hcf pa g A n c LL hn hl w h hF)
  have Hb := Lib.hid hb
  clear hF hb
  go_enter Try.func15, Try.ntmps15
  go_wp2_with fail
  refine (H.out).mono ?_
  rintro e w1 ⟨v, rfl, hv, hb1⟩
  obtain ⟨r, rfl, hr⟩ := hv.any
  have Hr := Lib.hid hr
  clear hr hv
  go_wp2_with fail
  go_ret
  exact R1.mk (bool_eq (Hr.out.trans Hb.out)) hb1
set_option maxRecDepth 1000000 in
set_option maxHeartbeats 4000000 in
theorem conK_any (F : FuncId) (hcf : ∀ (args : Array Value) (w : World), (callFunc F args).run Try.prog w = .ok (.enter F args) w) (pa : Value) (g : Nat → Bool) (A : Option Addr) (n c : Nat) (L : List ClE) (hn : L.length = n) (hl : n ≤ 140737488355328) (w : World) (h : Has w w.heap.size A (clCs L)) {b : Bool} (hb : anyN g n = b)
    (hF : ∀ j, j < n → ∀ w', Below w.heap.size w w' → Calls Try.prog F #[.agg (clA4 (at_ L j)), pa] w' (R1 (.bool (g j)) (Below w'.heap.size w'))) :
    Calls Try.prog 17 #[.slice A n c, .func (.func F) #[] #[pa]] w (R1 (.bool b) (Below w.heap.size w)) := by
  have H := Lib.hid (idxC_any F hcf pa g A n c L hn hl w h hF)
  have Hb := Lib.hid hb
  clear hF hb
  go_enter Try.func17, Try.ntmps17
  go_wp2_with fail
  refine (H.out).mono ?_
  rintro e w1 ⟨v, rfl, hv, hb1⟩
  obtain ⟨r, rfl, hr⟩ := hv.any
  have Hr := Lib.hid hr
  clear hr hv
  go_wp2_with fail
  go_ret
  exact R1.mk (bool_eq (Hr.out.trans Hb.out)) hb1
end Go.Proofs.Ytokilodekbjpnaa
