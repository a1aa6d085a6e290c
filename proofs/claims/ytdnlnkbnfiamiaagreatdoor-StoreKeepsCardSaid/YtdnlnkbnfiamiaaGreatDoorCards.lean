/-
  DERIVED. GIVEN WITH THE SEED: THE CARDS: each row of YtdnlnkbnfiamiaaGreatDoorRows.lean that lists a variable, with what it lists TIED to the program's text (the seventh form; the later family's looks); each row that meets fmt, with fmt's text TOLD by the authors' own Lean function (tested against real Go, not proved from fmt's source: count such statements apart). THE CARD IS WHAT COUNTS. Prove the row's statement (the work); the ties are given (YtdnlnkbnfiamiaaGreatDoorTie.lean); close each card by the builder's one call (the guide's Derived/Test/ToyasCard.lean, 'card_holds'). Laid BY PROGRAM, IN A SANDBOX (cutbox-door.mjs). By AI agents, Wed Nov 11 2026. No macro, syntax, notation, axiom, sorry.
-/
import Derived.Test.YtdnlnkbnfiamiaaGreatDoorRows
import GoSem.ClaimSeven
namespace Go.Proofs.YtdnlnkbnfiamiaaGreatDoor
namespace Rows

/-- THE TIED CARD OF 'gaugehousekeep.StoreSet'. -/
def storeSetCard : Claim7 := { stood := { row := storeSetRow, standIns := [], harness := (true, "e7b58b26437e178037489abb91ce99b787a46fa0349e4f95b2de9a5035c6cc51"), looks := true }, kinds := [], alts := [], laidByText := true, laidKinds := [.data], laidTests := true, laidLooks := .later }
def StoreSetCardSaid : Prop := Claim7.holds Tryz.pinned (.plain (OpenSpec.ofChange storeSetSpec)) storeSetCard

/-- THE TIED CARD OF 'gaugehousekeep.StoreGrows'. -/
def storeGrowsCard : Claim7 := { stood := { row := storeGrowsRow, standIns := [], harness := (true, "e7b58b26437e178037489abb91ce99b787a46fa0349e4f95b2de9a5035c6cc51"), looks := true }, kinds := [], alts := [], laidByText := true, laidKinds := [.data], laidTests := true, laidLooks := .later }
def StoreGrowsCardSaid : Prop := Claim7.holds Tryz.pinned (.plain (OpenSpec.ofChange storeGrowsSpec)) storeGrowsCard

/-- THE TIED CARD OF 'gaugehousekeep.StoreBack'. -/
def storeBackCard : Claim7 := { stood := { row := storeBackRow, standIns := [], harness := (true, "e7b58b26437e178037489abb91ce99b787a46fa0349e4f95b2de9a5035c6cc51"), looks := true }, kinds := [], alts := [], laidByText := true, laidKinds := [.data], laidTests := true, laidLooks := .later }
def StoreBackCardSaid : Prop := Claim7.holds Tryz.pinned (.plain (OpenSpec.ofChange storeBackSpec)) storeBackCard

/-- THE TIED CARD OF 'gaugehousekeep.StoreKeeps'. -/
def storeKeepsCard : Claim7 := { stood := { row := storeKeepsRow, standIns := [], harness := (true, "e7b58b26437e178037489abb91ce99b787a46fa0349e4f95b2de9a5035c6cc51"), looks := true }, kinds := [], alts := [], laidByText := true, laidKinds := [.data], laidTests := true, laidLooks := .later }
def StoreKeepsCardSaid : Prop := Claim7.holds Tryz.pinned (.plain (OpenSpec.ofChange storeKeepsSpec)) storeKeepsCard

/-- THE SECOND FORM's CARD OF 'gaugehousekeep.StoreSet'. -/
def storeSetUptoCard : Claim7 := { stood := { row := storeSetUptoRow, standIns := [], harness := (true, "e7b58b26437e178037489abb91ce99b787a46fa0349e4f95b2de9a5035c6cc51"), looks := true }, kinds := [], alts := [], laidByText := true, laidKinds := [.data], laidTests := true, laidLooks := .later }
def StoreSetUptoCardSaid : Prop := Claim7.holds Tryz.pinned (.plain (OpenSpec.upto storeSetSpec)) storeSetUptoCard

/-- THE SECOND FORM's CARD OF 'gaugehousekeep.StoreGrows'. -/
def storeGrowsUptoCard : Claim7 := { stood := { row := storeGrowsUptoRow, standIns := [], harness := (true, "e7b58b26437e178037489abb91ce99b787a46fa0349e4f95b2de9a5035c6cc51"), looks := true }, kinds := [], alts := [], laidByText := true, laidKinds := [.data], laidTests := true, laidLooks := .later }
def StoreGrowsUptoCardSaid : Prop := Claim7.holds Tryz.pinned (.plain (OpenSpec.upto storeGrowsSpec)) storeGrowsUptoCard

/-- THE SECOND FORM's CARD OF 'gaugehousekeep.StoreBack'. -/
def storeBackUptoCard : Claim7 := { stood := { row := storeBackUptoRow, standIns := [], harness := (true, "e7b58b26437e178037489abb91ce99b787a46fa0349e4f95b2de9a5035c6cc51"), looks := true }, kinds := [], alts := [], laidByText := true, laidKinds := [.data], laidTests := true, laidLooks := .later }
def StoreBackUptoCardSaid : Prop := Claim7.holds Tryz.pinned (.plain (OpenSpec.upto storeBackSpec)) storeBackUptoCard

/-- THE SECOND FORM's CARD OF 'gaugehousekeep.StoreKeeps'. -/
def storeKeepsUptoCard : Claim7 := { stood := { row := storeKeepsUptoRow, standIns := [], harness := (true, "e7b58b26437e178037489abb91ce99b787a46fa0349e4f95b2de9a5035c6cc51"), looks := true }, kinds := [], alts := [], laidByText := true, laidKinds := [.data], laidTests := true, laidLooks := .later }
def StoreKeepsUptoCardSaid : Prop := Claim7.holds Tryz.pinned (.plain (OpenSpec.upto storeKeepsSpec)) storeKeepsUptoCard
end Rows
end Go.Proofs.YtdnlnkbnfiamiaaGreatDoor
