/-
  DERIVED. GIVEN WITH THE SEED: THE CARDS: each row of YtkcfhfplppdnnaaDoorRows.lean that lists a variable, with what it lists TIED to the program's text (the seventh form; the later family's looks); each row that meets fmt, with fmt's text TOLD by the authors' own Lean function (tested against real Go, not proved from fmt's source: count such statements apart). THE CARD IS WHAT COUNTS. Prove the row's statement (the work); the ties are given (YtkcfhfplppdnnaaDoorTie.lean); close each card by the builder's one call (the guide's Derived/Test/ToyasCard.lean, 'card_holds'). Laid BY PROGRAM, IN A SANDBOX (cutbox-door.mjs). By AI agents, Wed Nov 11 2026. No macro, syntax, notation, axiom, sorry.
-/
import Derived.Test.YtkcfhfplppdnnaaDoorRows
import GoSem.ClaimSeven
namespace Go.Proofs.YtkcfhfplppdnnaaDoor
namespace Rows

/-- THE TIED CARD OF 'gaugehousekeep.DeltaMoved'. -/
def deltaMovedCard : Claim7 := { stood := { row := deltaMovedRow, standIns := [], harness := (true, "30f1f0b4a83c7c096f0e7108654084e479c38876451a092256521af09ed9a64e"), looks := false }, kinds := [], alts := [], laidByText := true, laidKinds := [.data], laidTests := true, laidLooks := .later }
def DeltaMovedCardSaid : Prop := Claim7.holds Tryd.pinned (.plain (OpenSpec.ofChange deltaMovedSpec)) deltaMovedCard

/-- THE TIED CARD OF 'gaugehousekeep.DeltaSteady'. -/
def deltaSteadyCard : Claim7 := { stood := { row := deltaSteadyRow, standIns := [], harness := (true, "30f1f0b4a83c7c096f0e7108654084e479c38876451a092256521af09ed9a64e"), looks := false }, kinds := [], alts := [], laidByText := true, laidKinds := [.data], laidTests := true, laidLooks := .later }
def DeltaSteadyCardSaid : Prop := Claim7.holds Tryd.pinned (.plain (OpenSpec.ofChange deltaSteadySpec)) deltaSteadyCard

/-- THE TIED CARD OF 'gaugehousekeep.DeltaBack'. -/
def deltaBackCard : Claim7 := { stood := { row := deltaBackRow, standIns := [], harness := (true, "30f1f0b4a83c7c096f0e7108654084e479c38876451a092256521af09ed9a64e"), looks := false }, kinds := [], alts := [], laidByText := true, laidKinds := [.data], laidTests := true, laidLooks := .later }
def DeltaBackCardSaid : Prop := Claim7.holds Tryd.pinned (.plain (OpenSpec.ofChange deltaBackSpec)) deltaBackCard

/-- THE TIED CARD OF 'gaugehousekeep.DeltaOne'. -/
def deltaOneCard : Claim7 := { stood := { row := deltaOneRow, standIns := [], harness := (true, "30f1f0b4a83c7c096f0e7108654084e479c38876451a092256521af09ed9a64e"), looks := false }, kinds := [], alts := [], laidByText := true, laidKinds := [.data], laidTests := true, laidLooks := .later }
def DeltaOneCardSaid : Prop := Claim7.holds Tryd.pinned (.plain (OpenSpec.ofChange deltaOneSpec)) deltaOneCard

/-- THE TIED CARD OF 'gaugehousekeep.XorTurned'. -/
def xorTurnedCard : Claim7 := { stood := { row := xorTurnedRow, standIns := [], harness := (true, "30f1f0b4a83c7c096f0e7108654084e479c38876451a092256521af09ed9a64e"), looks := false }, kinds := [], alts := [], laidByText := true, laidKinds := [.data], laidTests := true, laidLooks := .later }
def XorTurnedCardSaid : Prop := Claim7.holds Tryd.pinned (.plain (OpenSpec.ofChange xorTurnedSpec)) xorTurnedCard

/-- THE TIED CARD OF 'gaugehousekeep.XorSame'. -/
def xorSameCard : Claim7 := { stood := { row := xorSameRow, standIns := [], harness := (true, "30f1f0b4a83c7c096f0e7108654084e479c38876451a092256521af09ed9a64e"), looks := false }, kinds := [], alts := [], laidByText := true, laidKinds := [.data], laidTests := true, laidLooks := .later }
def XorSameCardSaid : Prop := Claim7.holds Tryd.pinned (.plain (OpenSpec.ofChange xorSameSpec)) xorSameCard

/-- THE TIED CARD OF 'gaugehousekeep.XorBack'. -/
def xorBackCard : Claim7 := { stood := { row := xorBackRow, standIns := [], harness := (true, "30f1f0b4a83c7c096f0e7108654084e479c38876451a092256521af09ed9a64e"), looks := false }, kinds := [], alts := [], laidByText := true, laidKinds := [.data], laidTests := true, laidLooks := .later }
def XorBackCardSaid : Prop := Claim7.holds Tryd.pinned (.plain (OpenSpec.ofChange xorBackSpec)) xorBackCard

/-- THE TIED CARD OF 'gaugehousekeep.XorOne'. -/
def xorOneCard : Claim7 := { stood := { row := xorOneRow, standIns := [], harness := (true, "30f1f0b4a83c7c096f0e7108654084e479c38876451a092256521af09ed9a64e"), looks := false }, kinds := [], alts := [], laidByText := true, laidKinds := [.data], laidTests := true, laidLooks := .later }
def XorOneCardSaid : Prop := Claim7.holds Tryd.pinned (.plain (OpenSpec.ofChange xorOneSpec)) xorOneCard

/-- THE TIED CARD OF 'gaugehousekeep.ChunkBack'. -/
def chunkBackCard : Claim7 := { stood := { row := chunkBackRow, standIns := [], harness := (true, "30f1f0b4a83c7c096f0e7108654084e479c38876451a092256521af09ed9a64e"), looks := false }, kinds := [], alts := [], laidByText := true, laidKinds := [.data, .data], laidTests := true, laidLooks := .later }
def ChunkBackCardSaid : Prop := Claim7.holds Tryd.pinned (.plain (OpenSpec.ofChange chunkBackSpec)) chunkBackCard

/-- THE TIED CARD OF 'gaugehousekeep.ChunkOne'. -/
def chunkOneCard : Claim7 := { stood := { row := chunkOneRow, standIns := [], harness := (true, "30f1f0b4a83c7c096f0e7108654084e479c38876451a092256521af09ed9a64e"), looks := false }, kinds := [], alts := [], laidByText := true, laidKinds := [.data, .data], laidTests := true, laidLooks := .later }
def ChunkOneCardSaid : Prop := Claim7.holds Tryd.pinned (.plain (OpenSpec.ofChange chunkOneSpec)) chunkOneCard

/-- THE SECOND FORM's CARD OF 'gaugehousekeep.DeltaMoved'. -/
def deltaMovedUptoCard : Claim7 := { stood := { row := deltaMovedUptoRow, standIns := [], harness := (true, "30f1f0b4a83c7c096f0e7108654084e479c38876451a092256521af09ed9a64e"), looks := false }, kinds := [], alts := [], laidByText := true, laidKinds := [.data], laidTests := true, laidLooks := .later }
def DeltaMovedUptoCardSaid : Prop := Claim7.holds Tryd.pinned (.plain (OpenSpec.upto deltaMovedSpec)) deltaMovedUptoCard

/-- THE SECOND FORM's CARD OF 'gaugehousekeep.DeltaSteady'. -/
def deltaSteadyUptoCard : Claim7 := { stood := { row := deltaSteadyUptoRow, standIns := [], harness := (true, "30f1f0b4a83c7c096f0e7108654084e479c38876451a092256521af09ed9a64e"), looks := false }, kinds := [], alts := [], laidByText := true, laidKinds := [.data], laidTests := true, laidLooks := .later }
def DeltaSteadyUptoCardSaid : Prop := Claim7.holds Tryd.pinned (.plain (OpenSpec.upto deltaSteadySpec)) deltaSteadyUptoCard

/-- THE SECOND FORM's CARD OF 'gaugehousekeep.DeltaBack'. -/
def deltaBackUptoCard : Claim7 := { stood := { row := deltaBackUptoRow, standIns := [], harness := (true, "30f1f0b4a83c7c096f0e7108654084e479c38876451a092256521af09ed9a64e"), looks := false }, kinds := [], alts := [], laidByText := true, laidKinds := [.data], laidTests := true, laidLooks := .later }
def DeltaBackUptoCardSaid : Prop := Claim7.holds Tryd.pinned (.plain (OpenSpec.upto deltaBackSpec)) deltaBackUptoCard

/-- THE SECOND FORM's CARD OF 'gaugehousekeep.DeltaOne'. -/
def deltaOneUptoCard : Claim7 := { stood := { row := deltaOneUptoRow, standIns := [], harness := (true, "30f1f0b4a83c7c096f0e7108654084e479c38876451a092256521af09ed9a64e"), looks := false }, kinds := [], alts := [], laidByText := true, laidKinds := [.data], laidTests := true, laidLooks := .later }
def DeltaOneUptoCardSaid : Prop := Claim7.holds Tryd.pinned (.plain (OpenSpec.upto deltaOneSpec)) deltaOneUptoCard

/-- THE SECOND FORM's CARD OF 'gaugehousekeep.XorTurned'. -/
def xorTurnedUptoCard : Claim7 := { stood := { row := xorTurnedUptoRow, standIns := [], harness := (true, "30f1f0b4a83c7c096f0e7108654084e479c38876451a092256521af09ed9a64e"), looks := false }, kinds := [], alts := [], laidByText := true, laidKinds := [.data], laidTests := true, laidLooks := .later }
def XorTurnedUptoCardSaid : Prop := Claim7.holds Tryd.pinned (.plain (OpenSpec.upto xorTurnedSpec)) xorTurnedUptoCard

/-- THE SECOND FORM's CARD OF 'gaugehousekeep.XorSame'. -/
def xorSameUptoCard : Claim7 := { stood := { row := xorSameUptoRow, standIns := [], harness := (true, "30f1f0b4a83c7c096f0e7108654084e479c38876451a092256521af09ed9a64e"), looks := false }, kinds := [], alts := [], laidByText := true, laidKinds := [.data], laidTests := true, laidLooks := .later }
def XorSameUptoCardSaid : Prop := Claim7.holds Tryd.pinned (.plain (OpenSpec.upto xorSameSpec)) xorSameUptoCard

/-- THE SECOND FORM's CARD OF 'gaugehousekeep.XorBack'. -/
def xorBackUptoCard : Claim7 := { stood := { row := xorBackUptoRow, standIns := [], harness := (true, "30f1f0b4a83c7c096f0e7108654084e479c38876451a092256521af09ed9a64e"), looks := false }, kinds := [], alts := [], laidByText := true, laidKinds := [.data], laidTests := true, laidLooks := .later }
def XorBackUptoCardSaid : Prop := Claim7.holds Tryd.pinned (.plain (OpenSpec.upto xorBackSpec)) xorBackUptoCard

/-- THE SECOND FORM's CARD OF 'gaugehousekeep.XorOne'. -/
def xorOneUptoCard : Claim7 := { stood := { row := xorOneUptoRow, standIns := [], harness := (true, "30f1f0b4a83c7c096f0e7108654084e479c38876451a092256521af09ed9a64e"), looks := false }, kinds := [], alts := [], laidByText := true, laidKinds := [.data], laidTests := true, laidLooks := .later }
def XorOneUptoCardSaid : Prop := Claim7.holds Tryd.pinned (.plain (OpenSpec.upto xorOneSpec)) xorOneUptoCard

/-- THE SECOND FORM's CARD OF 'gaugehousekeep.ChunkBack'. -/
def chunkBackUptoCard : Claim7 := { stood := { row := chunkBackUptoRow, standIns := [], harness := (true, "30f1f0b4a83c7c096f0e7108654084e479c38876451a092256521af09ed9a64e"), looks := false }, kinds := [], alts := [], laidByText := true, laidKinds := [.data, .data], laidTests := true, laidLooks := .later }
def ChunkBackUptoCardSaid : Prop := Claim7.holds Tryd.pinned (.plain (OpenSpec.upto chunkBackSpec)) chunkBackUptoCard

/-- THE SECOND FORM's CARD OF 'gaugehousekeep.ChunkOne'. -/
def chunkOneUptoCard : Claim7 := { stood := { row := chunkOneUptoRow, standIns := [], harness := (true, "30f1f0b4a83c7c096f0e7108654084e479c38876451a092256521af09ed9a64e"), looks := false }, kinds := [], alts := [], laidByText := true, laidKinds := [.data, .data], laidTests := true, laidLooks := .later }
def ChunkOneUptoCardSaid : Prop := Claim7.holds Tryd.pinned (.plain (OpenSpec.upto chunkOneSpec)) chunkOneUptoCard
end Rows
end Go.Proofs.YtkcfhfplppdnnaaDoor
