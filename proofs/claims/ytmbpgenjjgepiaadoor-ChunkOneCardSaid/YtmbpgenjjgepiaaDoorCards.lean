/-
  DERIVED. GIVEN WITH THE SEED: THE CARDS: each row of YtmbpgenjjgepiaaDoorRows.lean that lists a variable, with what it lists TIED to the program's text (the seventh form; the later family's looks); each row that meets fmt, with fmt's text TOLD by the authors' own Lean function (tested against real Go, not proved from fmt's source: count such statements apart). THE CARD IS WHAT COUNTS. Prove the row's statement (the work); the ties are given (YtmbpgenjjgepiaaDoorTie.lean); close each card by the builder's one call (the guide's Derived/Test/ToyasCard.lean, 'card_holds'). Laid BY PROGRAM, IN A SANDBOX (cutbox-door.mjs). By AI agents, Wed Nov 11 2026. No macro, syntax, notation, axiom, sorry.
-/
import Derived.Test.YtmbpgenjjgepiaaDoorRows
import GoSem.ClaimSeven
namespace Go.Proofs.YtmbpgenjjgepiaaDoor
namespace Rows

/-- THE TIED CARD OF 'gaugehousekeep.ChunkBack'. -/
def chunkBackCard : Claim7 := { stood := { row := chunkBackRow, standIns := [], harness := (true, "aab34423c4122509bf833e799a5492634b4262acf1c47f5c7af3fbc2eda9d8f3"), looks := false }, kinds := [], alts := [], laidByText := true, laidKinds := [.data, .data], laidTests := true, laidLooks := .later }
def ChunkBackCardSaid : Prop := Claim7.holds Tryd.pinned (.plain (OpenSpec.ofChange chunkBackSpec)) chunkBackCard

/-- THE TIED CARD OF 'gaugehousekeep.ChunkOne'. -/
def chunkOneCard : Claim7 := { stood := { row := chunkOneRow, standIns := [], harness := (true, "aab34423c4122509bf833e799a5492634b4262acf1c47f5c7af3fbc2eda9d8f3"), looks := false }, kinds := [], alts := [], laidByText := true, laidKinds := [.data, .data], laidTests := true, laidLooks := .later }
def ChunkOneCardSaid : Prop := Claim7.holds Tryd.pinned (.plain (OpenSpec.ofChange chunkOneSpec)) chunkOneCard

/-- THE SECOND FORM's CARD OF 'gaugehousekeep.ChunkBack'. -/
def chunkBackUptoCard : Claim7 := { stood := { row := chunkBackUptoRow, standIns := [], harness := (true, "aab34423c4122509bf833e799a5492634b4262acf1c47f5c7af3fbc2eda9d8f3"), looks := false }, kinds := [], alts := [], laidByText := true, laidKinds := [.data, .data], laidTests := true, laidLooks := .later }
def ChunkBackUptoCardSaid : Prop := Claim7.holds Tryd.pinned (.plain (OpenSpec.upto chunkBackSpec)) chunkBackUptoCard

/-- THE SECOND FORM's CARD OF 'gaugehousekeep.ChunkOne'. -/
def chunkOneUptoCard : Claim7 := { stood := { row := chunkOneUptoRow, standIns := [], harness := (true, "aab34423c4122509bf833e799a5492634b4262acf1c47f5c7af3fbc2eda9d8f3"), looks := false }, kinds := [], alts := [], laidByText := true, laidKinds := [.data, .data], laidTests := true, laidLooks := .later }
def ChunkOneUptoCardSaid : Prop := Claim7.holds Tryd.pinned (.plain (OpenSpec.upto chunkOneSpec)) chunkOneUptoCard
end Rows
end Go.Proofs.YtmbpgenjjgepiaaDoor
