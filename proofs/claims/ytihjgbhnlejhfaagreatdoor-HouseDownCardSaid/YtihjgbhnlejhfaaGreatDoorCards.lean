/-
  DERIVED. GIVEN WITH THE SEED: THE CARDS: each row of YtihjgbhnlejhfaaGreatDoorRows.lean that lists a variable, with what it lists TIED to the program's text (the seventh form; the later family's looks); each row that meets fmt, with fmt's text TOLD by the authors' own Lean function (tested against real Go, not proved from fmt's source: count such statements apart). THE CARD IS WHAT COUNTS. Prove the row's statement (the work); the ties are given (YtihjgbhnlejhfaaGreatDoorTie.lean); close each card by the builder's one call (the guide's Derived/Test/ToyasCard.lean, 'card_holds'). Laid BY PROGRAM, IN A SANDBOX (cutbox-door.mjs). By AI agents, Wed Nov 11 2026. No macro, syntax, notation, axiom, sorry.
-/
import Derived.Test.YtihjgbhnlejhfaaGreatDoorRows
import GoSem.ClaimSeven
namespace Go.Proofs.YtihjgbhnlejhfaaGreatDoor
namespace Rows

/-- THE TIED CARD OF 'gaugehousekeep.HouseAcks'. -/
def houseAcksCard : Claim7 := { stood := { row := houseAcksRow, standIns := [], harness := (true, "679d2aa9e8eb9ef63046205ab4131d17980bf9375c011fd53159ab45360d1d71"), looks := true }, kinds := [], alts := [], laidByText := true, laidKinds := [.data], laidTests := true, laidLooks := .later }
def HouseAcksCardSaid : Prop := Claim7.holds Tryz.pinned (.plain (OpenSpec.ofChange houseAcksSpec)) houseAcksCard

/-- THE TIED CARD OF 'gaugehousekeep.HouseSees'. -/
def houseSeesCard : Claim7 := { stood := { row := houseSeesRow, standIns := [], harness := (true, "679d2aa9e8eb9ef63046205ab4131d17980bf9375c011fd53159ab45360d1d71"), looks := true }, kinds := [], alts := [], laidByText := true, laidKinds := [.data], laidTests := true, laidLooks := .later }
def HouseSeesCardSaid : Prop := Claim7.holds Tryz.pinned (.plain (OpenSpec.ofChange houseSeesSpec)) houseSeesCard

/-- THE TIED CARD OF 'gaugehousekeep.HouseTrue'. -/
def houseTrueCard : Claim7 := { stood := { row := houseTrueRow, standIns := [], harness := (true, "679d2aa9e8eb9ef63046205ab4131d17980bf9375c011fd53159ab45360d1d71"), looks := true }, kinds := [], alts := [], laidByText := true, laidKinds := [.data], laidTests := true, laidLooks := .later }
def HouseTrueCardSaid : Prop := Claim7.holds Tryz.pinned (.plain (OpenSpec.ofChange houseTrueSpec)) houseTrueCard

/-- THE TIED CARD OF 'gaugehousekeep.HouseRing'. -/
def houseRingCard : Claim7 := { stood := { row := houseRingRow, standIns := [], harness := (true, "679d2aa9e8eb9ef63046205ab4131d17980bf9375c011fd53159ab45360d1d71"), looks := true }, kinds := [], alts := [], laidByText := true, laidKinds := [.data], laidTests := true, laidLooks := .later }
def HouseRingCardSaid : Prop := Claim7.holds Tryz.pinned (.plain (OpenSpec.ofChange houseRingSpec)) houseRingCard

/-- THE TIED CARD OF 'gaugehousekeep.HouseMends'. -/
def houseMendsCard : Claim7 := { stood := { row := houseMendsRow, standIns := [], harness := (true, "679d2aa9e8eb9ef63046205ab4131d17980bf9375c011fd53159ab45360d1d71"), looks := true }, kinds := [], alts := [], laidByText := true, laidKinds := [.data], laidTests := true, laidLooks := .later }
def HouseMendsCardSaid : Prop := Claim7.holds Tryz.pinned (.plain (OpenSpec.ofChange houseMendsSpec)) houseMendsCard

/-- THE TIED CARD OF 'gaugehousekeep.HouseDown'. -/
def houseDownCard : Claim7 := { stood := { row := houseDownRow, standIns := [], harness := (true, "679d2aa9e8eb9ef63046205ab4131d17980bf9375c011fd53159ab45360d1d71"), looks := true }, kinds := [], alts := [], laidByText := true, laidKinds := [.data], laidTests := true, laidLooks := .later }
def HouseDownCardSaid : Prop := Claim7.holds Tryz.pinned (.plain (OpenSpec.ofChange houseDownSpec)) houseDownCard

/-- THE SECOND FORM's CARD OF 'gaugehousekeep.HouseAcks'. -/
def houseAcksUptoCard : Claim7 := { stood := { row := houseAcksUptoRow, standIns := [], harness := (true, "679d2aa9e8eb9ef63046205ab4131d17980bf9375c011fd53159ab45360d1d71"), looks := true }, kinds := [], alts := [], laidByText := true, laidKinds := [.data], laidTests := true, laidLooks := .later }
def HouseAcksUptoCardSaid : Prop := Claim7.holds Tryz.pinned (.plain (OpenSpec.upto houseAcksSpec)) houseAcksUptoCard

/-- THE SECOND FORM's CARD OF 'gaugehousekeep.HouseSees'. -/
def houseSeesUptoCard : Claim7 := { stood := { row := houseSeesUptoRow, standIns := [], harness := (true, "679d2aa9e8eb9ef63046205ab4131d17980bf9375c011fd53159ab45360d1d71"), looks := true }, kinds := [], alts := [], laidByText := true, laidKinds := [.data], laidTests := true, laidLooks := .later }
def HouseSeesUptoCardSaid : Prop := Claim7.holds Tryz.pinned (.plain (OpenSpec.upto houseSeesSpec)) houseSeesUptoCard

/-- THE SECOND FORM's CARD OF 'gaugehousekeep.HouseTrue'. -/
def houseTrueUptoCard : Claim7 := { stood := { row := houseTrueUptoRow, standIns := [], harness := (true, "679d2aa9e8eb9ef63046205ab4131d17980bf9375c011fd53159ab45360d1d71"), looks := true }, kinds := [], alts := [], laidByText := true, laidKinds := [.data], laidTests := true, laidLooks := .later }
def HouseTrueUptoCardSaid : Prop := Claim7.holds Tryz.pinned (.plain (OpenSpec.upto houseTrueSpec)) houseTrueUptoCard

/-- THE SECOND FORM's CARD OF 'gaugehousekeep.HouseRing'. -/
def houseRingUptoCard : Claim7 := { stood := { row := houseRingUptoRow, standIns := [], harness := (true, "679d2aa9e8eb9ef63046205ab4131d17980bf9375c011fd53159ab45360d1d71"), looks := true }, kinds := [], alts := [], laidByText := true, laidKinds := [.data], laidTests := true, laidLooks := .later }
def HouseRingUptoCardSaid : Prop := Claim7.holds Tryz.pinned (.plain (OpenSpec.upto houseRingSpec)) houseRingUptoCard

/-- THE SECOND FORM's CARD OF 'gaugehousekeep.HouseMends'. -/
def houseMendsUptoCard : Claim7 := { stood := { row := houseMendsUptoRow, standIns := [], harness := (true, "679d2aa9e8eb9ef63046205ab4131d17980bf9375c011fd53159ab45360d1d71"), looks := true }, kinds := [], alts := [], laidByText := true, laidKinds := [.data], laidTests := true, laidLooks := .later }
def HouseMendsUptoCardSaid : Prop := Claim7.holds Tryz.pinned (.plain (OpenSpec.upto houseMendsSpec)) houseMendsUptoCard

/-- THE SECOND FORM's CARD OF 'gaugehousekeep.HouseDown'. -/
def houseDownUptoCard : Claim7 := { stood := { row := houseDownUptoRow, standIns := [], harness := (true, "679d2aa9e8eb9ef63046205ab4131d17980bf9375c011fd53159ab45360d1d71"), looks := true }, kinds := [], alts := [], laidByText := true, laidKinds := [.data], laidTests := true, laidLooks := .later }
def HouseDownUptoCardSaid : Prop := Claim7.holds Tryz.pinned (.plain (OpenSpec.upto houseDownSpec)) houseDownUptoCard
end Rows
end Go.Proofs.YtihjgbhnlejhfaaGreatDoor
