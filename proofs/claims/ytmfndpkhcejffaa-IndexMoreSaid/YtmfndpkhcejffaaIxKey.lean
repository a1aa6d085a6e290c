/- Labels as keys of a map. Conditions: none beyond each theorem's own hypotheses. -/
import Derived.Test.YtmfndpkhcejffaaIxAt
import Derived.DeepKeys4
namespace Go.Proofs.Ytmfndpkhcejffaa
open Go.RowKit Go.ChangeMaps
open Go.WideMaps (KeyLaw)

theorem laidI : laidOutB Try.prog = true := by kernel_rfl
theorem labKey : KeyLaw Try.prog 55 :=
  deep_law_laid laidI (m := 9) (by decide) (of_decide_eq_true (by kernel_rfl)) (by kernel_rfl) (by kernel_rfl)
theorem lab_formed (a b : ByteArray) : (Value.agg #[.string a, .string b]).formed Try.prog 55 = true := by kernel_rfl
theorem lab_keyed (x : Lab) (hx : LabOk x) : ∃ l, keyOf Try.prog 55 (labV x) = some l := by
  obtain ⟨a, b⟩ := x
  obtain ⟨h1, h2⟩ := hx
  have hu := Try.underlying55
  have hs := Try.underlying9
  have hk : Try.prog.keyType 55 = true := by kernel_rfl
  have hc : Try.prog.cellsOf 55 = 2 := by kernel_rfl
  have hcs : Try.prog.cellsOf 9 = 1 := by kernel_rfl
  unfold labV keyOf
  simp only [hu, hk, lab_formed, Bool.and_self, if_true]
  have hsz : ∃ m, Try.prog.types.size + 1 = m + 2 := ⟨Try.prog.types.size - 1, by
    have : 1 ≤ Try.prog.types.size := of_decide_eq_true (by kernel_rfl)
    omega⟩
  obtain ⟨m, hm⟩ := hsz
  rw [hm]
  have hks : ∀ s : ByteArray, s.size ≤ maxLen → Try.prog.keyLits (m + 1) 9 [.string s] = some [.string s.data.toList] := fun s h => by
    unfold Program.keyLits
    simp only [hs, h, if_true]
  have : ∃ L, Try.prog.keyLits (m + 2) 55 (Value.agg #[.string a, .string b]).cells.toList = some L := by
    unfold Program.keyLits
    simp only [hu]
    simp [Value.cells, hc, hcs, hks a h1, hks b h2]
  obtain ⟨L, hL⟩ := this
  rw [hL]
  exact ⟨_, rfl⟩
end Go.Proofs.Ytmfndpkhcejffaa
