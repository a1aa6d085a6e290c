/-
  DERIVED. GIVEN WITH THE SEED: THE CARDS: each row of YtmfndpkhcejffaaGreatDoorRows.lean that lists a variable, with what it lists TIED to the program's text (the seventh form; the later family's looks); each row that meets fmt, with fmt's text TOLD by the authors' own Lean function (tested against real Go, not proved from fmt's source: count such statements apart). THE CARD IS WHAT COUNTS. Prove the row's statement (the work); the ties are given (YtmfndpkhcejffaaGreatDoorTie.lean); close each card by the builder's one call (the guide's Derived/Test/ToyasCard.lean, 'card_holds'). Laid BY PROGRAM, IN A SANDBOX (cutbox-door.mjs). By AI agents, Wed Nov 11 2026. No macro, syntax, notation, axiom, sorry.
-/
import Derived.Test.YtmfndpkhcejffaaGreatDoorRows
import GoSem.ClaimSeven
namespace Go.Proofs.YtmfndpkhcejffaaGreatDoor
namespace Rows

/-- THE TIED CARD OF 'gaugehousekeep.LabelBack'. -/
def labelBackCard : Claim7 := { stood := { row := labelBackRow, standIns := [], harness := (true, "58a08de66441fa3f4686ba8012552354b4e8fde64ee3addc58d4281436322bd9"), looks := true }, kinds := [], alts := [], laidByText := true, laidKinds := [.data], laidTests := true, laidLooks := .later }
def LabelBackCardSaid : Prop := Claim7.holds Tryz.pinned (.plain (OpenSpec.ofChange labelBackSpec)) labelBackCard

/-- THE SECOND FORM's CARD OF 'gaugehousekeep.LabelBack'. -/
def labelBackUptoCard : Claim7 := { stood := { row := labelBackUptoRow, standIns := [], harness := (true, "58a08de66441fa3f4686ba8012552354b4e8fde64ee3addc58d4281436322bd9"), looks := true }, kinds := [], alts := [], laidByText := true, laidKinds := [.data], laidTests := true, laidLooks := .later }
def LabelBackUptoCardSaid : Prop := Claim7.holds Tryz.pinned (.plain (OpenSpec.upto labelBackSpec)) labelBackUptoCard
end Rows
end Go.Proofs.YtmfndpkhcejffaaGreatDoor
