/- What sort.Search finds, whatever function it asks that only reads. Conditions: the function's own contract. -/
import Derived.Test.YtmbpgenjjgepiaaDoorKit
namespace Go.Proofs.YtmbpgenjjgepiaaDoor
open Go.RowKit

/-- r parts the numbers below n: no before it, yes from it on -/
def Parts (g : Nat → Bool) (n r : Nat) : Prop := r ≤ n ∧ (∀ i, i < r → g i = false) ∧ ∀ i, r ≤ i → i < n → g i = true

set_option maxRecDepth 1000000 in
set_option maxHeartbeats 1000000 in
theorem search_any (F : FuncId) (hcf : ∀ (args : Array Value) (w : World), (callFunc F args).run Tryd.prog w = .ok (.enter F args) w) (pa pb : Value) (g : Nat → Bool) (n : Nat) (hn : n ≤ 140737488355328) (hmono : ∀ i j, i ≤ j → j < n → g i = true → g j = true) (w : World)
    (hF : ∀ i : Nat, i < n → ∀ m, Calls Tryd.prog F #[.int .i64 i, pa, pb] (w.drewN m) (R1 (.bool (g i)) (Drawn (w.drewN m)))) :
    Calls Tryd.prog 20 #[.int .i64 n, .func (.func F) #[] #[pa, pb]] w (RV fun v w' => (∃ r : Nat, v = .int .i64 r ∧ Parts g n r) ∧ Drawn w w') := by
  have HF := Lib.hid hF; clear hF
  have HM := Lib.hid hmono; clear hmono
  go_enter Tryd.func20, Tryd.ntmps20
  go_wp2
  go_loopw [5, 6] (fun a b wr => ∃ i j : Nat, i ≤ j ∧ j ≤ n ∧ a = .int .i64 (i : Nat) ∧ b = .int .i64 (j : Nat) ∧ Hid ((∀ q, q < i → g q = false) ∧ ∀ q, j ≤ q → q < n → g q = true) ∧ Drawn w wr) (fun a b _ => (intOf b).toNat - (intOf a).toNat)
  case atStart => exact ⟨0, n, by omega, by omega, rfl, rfl, Lib.hid ⟨fun q hq => by omega, fun q h1 h2 => by omega⟩, Drawn.refl _⟩
  case round =>
    obtain ⟨i, j, hij, hjn, rfl, rfl, hq, m, rfl⟩ := hrel
    by_cases hlt : (i : Int) < (j : Int)
    · obtain ⟨h, hh⟩ : ∃ h, (i + j) / 2 = h := ⟨_, rfl⟩
      have h1 : i ≤ h := by omega
      have h2 : h < j := by omega
      have e1 : Hid (((i : Int) + (j : Int)) / 2 = (h : Int)) := Lib.hid (by omega)
      clear hh
      cases hg : g h
      · have Hg := Lib.hid hg; clear hg
        go_wp2_with fail
        rw [e1.out]
        go_wp2_with fail
        refine (HF.out h (by omega) _).mono ?_
        rintro e w1 ⟨rfl, n1, rfl⟩
        rw [Hg.out]
        go_wp2_with fail
        go_roundw
        case rel =>
          refine ⟨h + 1, j, by omega, hjn, by go_num, rfl, Lib.hid ⟨fun q hq2 => ?_, hq.out.2⟩, _, rfl⟩
          cases hgq : g q
          · rfl
          · have := HM.out q h (by omega) (by omega) hgq
            rw [Hg.out] at this
            cases this
        case measure => simp [intOf]; omega
      · have Hg := Lib.hid hg; clear hg
        go_wp2_with fail
        rw [e1.out]
        go_wp2_with fail
        refine (HF.out h (by omega) _).mono ?_
        rintro e w1 ⟨rfl, n1, rfl⟩
        rw [Hg.out]
        go_wp2_with fail
        go_roundw
        case rel => exact ⟨i, h, h1, by omega, rfl, rfl, Lib.hid ⟨hq.out.1, fun q h3 h4 => HM.out h q h3 h4 Hg.out⟩, _, rfl⟩
        case measure => simp [intOf]; omega
    · go_wp2
      go_ret
      exact RV.mk ⟨⟨i, rfl, by omega, hq.out.1, fun q h1 h2 => hq.out.2 q (by omega) h2⟩, _, rfl⟩
end Go.Proofs.YtmbpgenjjgepiaaDoor
