/-
  DERIVED. GIVEN WITH THE SEED: THE CARDS: each row of YtnicbhmeigpjkaaGreatDoorRows.lean that lists a variable, with what it lists TIED to the program's text (the seventh form; the later family's looks); each row that meets fmt, with fmt's text TOLD by the authors' own Lean function (tested against real Go, not proved from fmt's source: count such statements apart). THE CARD IS WHAT COUNTS. Prove the row's statement (the work); the ties are given (YtnicbhmeigpjkaaGreatDoorTie.lean); close each card by the builder's one call (the guide's Derived/Test/ToyasCard.lean, 'card_holds'). Laid BY PROGRAM, IN A SANDBOX (cutbox-door.mjs). By AI agents, Wed Nov 11 2026. No macro, syntax, notation, axiom, sorry.
-/
import Derived.Test.YtnicbhmeigpjkaaGreatDoorRows
import GoSem.ClaimSeven
namespace Go.Proofs.YtnicbhmeigpjkaaGreatDoor
namespace Rows

/-- THE TIED CARD OF 'gaugehousekeep.ExprNum'. -/
def exprNumCard : Claim7 := { stood := { row := exprNumRow, standIns := [], harness := (true, "6e158fec90c070c7cf5e38694df7a454c1d502b9c7c468e013cf39bde505f510"), looks := true }, kinds := [], alts := [], laidByText := true, laidKinds := [.data, .data, .data, .data, .data], laidTests := true, laidLooks := .later }
def ExprNumCardSaid : Prop := Claim7.holds Tryz.pinned (.plain (OpenSpec.ofChange exprNumSpec)) exprNumCard

/-- THE TIED CARD OF 'gaugehousekeep.ExprCount'. -/
def exprCountCard : Claim7 := { stood := { row := exprCountRow, standIns := [], harness := (true, "6e158fec90c070c7cf5e38694df7a454c1d502b9c7c468e013cf39bde505f510"), looks := true }, kinds := [], alts := [], laidByText := true, laidKinds := [.data, .data, .data, .data, .data], laidTests := true, laidLooks := .later }
def ExprCountCardSaid : Prop := Claim7.holds Tryz.pinned (.plain (OpenSpec.ofChange exprCountSpec)) exprCountCard

/-- THE TIED CARD OF 'gaugehousekeep.ExprWider'. -/
def exprWiderCard : Claim7 := { stood := { row := exprWiderRow, standIns := [], harness := (true, "6e158fec90c070c7cf5e38694df7a454c1d502b9c7c468e013cf39bde505f510"), looks := true }, kinds := [], alts := [], laidByText := true, laidKinds := [.data, .data, .data, .data, .data], laidTests := true, laidLooks := .later }
def ExprWiderCardSaid : Prop := Claim7.holds Tryz.pinned (.plain (OpenSpec.ofChange exprWiderSpec)) exprWiderCard

/-- THE TIED CARD OF 'gaugehousekeep.ExprSum'. -/
def exprSumCard : Claim7 := { stood := { row := exprSumRow, standIns := [], harness := (true, "6e158fec90c070c7cf5e38694df7a454c1d502b9c7c468e013cf39bde505f510"), looks := true }, kinds := [], alts := [], laidByText := true, laidKinds := [.data, .data, .data, .data, .data], laidTests := true, laidLooks := .later }
def ExprSumCardSaid : Prop := Claim7.holds Tryz.pinned (.plain (OpenSpec.ofChange exprSumSpec)) exprSumCard

/-- THE TIED CARD OF 'gaugehousekeep.ExprLess'. -/
def exprLessCard : Claim7 := { stood := { row := exprLessRow, standIns := [], harness := (true, "6e158fec90c070c7cf5e38694df7a454c1d502b9c7c468e013cf39bde505f510"), looks := true }, kinds := [], alts := [], laidByText := true, laidKinds := [.data, .data, .data, .data, .data], laidTests := true, laidLooks := .later }
def ExprLessCardSaid : Prop := Claim7.holds Tryz.pinned (.plain (OpenSpec.ofChange exprLessSpec)) exprLessCard

/-- THE TIED CARD OF 'gaugehousekeep.ExprElse'. -/
def exprElseCard : Claim7 := { stood := { row := exprElseRow, standIns := [], harness := (true, "6e158fec90c070c7cf5e38694df7a454c1d502b9c7c468e013cf39bde505f510"), looks := true }, kinds := [], alts := [], laidByText := true, laidKinds := [.data, .data, .data, .data, .data], laidTests := true, laidLooks := .later }
def ExprElseCardSaid : Prop := Claim7.holds Tryz.pinned (.plain (OpenSpec.ofChange exprElseSpec)) exprElseCard

/-- THE TIED CARD OF 'gaugehousekeep.ExprBack'. -/
def exprBackCard : Claim7 := { stood := { row := exprBackRow, standIns := [], harness := (true, "6e158fec90c070c7cf5e38694df7a454c1d502b9c7c468e013cf39bde505f510"), looks := true }, kinds := [], alts := [], laidByText := true, laidKinds := [.data, .data, .data, .data, .sentinel, .sentinel, .data, .data, .pinned], laidTests := true, laidLooks := .later }
def ExprBackCardSaid : Prop := Claim7.holds Tryz.pinned (.plain (OpenSpec.ofChange exprBackSpec)) exprBackCard

/-- THE TIED CARD OF 'gaugehousekeep.ExprOne'. -/
def exprOneCard : Claim7 := { stood := { row := exprOneRow, standIns := [], harness := (true, "6e158fec90c070c7cf5e38694df7a454c1d502b9c7c468e013cf39bde505f510"), looks := true }, kinds := [], alts := [], laidByText := true, laidKinds := [.data, .data, .data, .data, .sentinel, .sentinel, .data, .data, .pinned], laidTests := true, laidLooks := .later }
def ExprOneCardSaid : Prop := Claim7.holds Tryz.pinned (.plain (OpenSpec.ofChange exprOneSpec)) exprOneCard

/-- THE SECOND FORM's CARD OF 'gaugehousekeep.ExprNum'. -/
def exprNumUptoCard : Claim7 := { stood := { row := exprNumUptoRow, standIns := [], harness := (true, "6e158fec90c070c7cf5e38694df7a454c1d502b9c7c468e013cf39bde505f510"), looks := true }, kinds := [], alts := [], laidByText := true, laidKinds := [.data, .data, .data, .data, .data], laidTests := true, laidLooks := .later }
def ExprNumUptoCardSaid : Prop := Claim7.holds Tryz.pinned (.plain (OpenSpec.upto exprNumSpec)) exprNumUptoCard

/-- THE SECOND FORM's CARD OF 'gaugehousekeep.ExprCount'. -/
def exprCountUptoCard : Claim7 := { stood := { row := exprCountUptoRow, standIns := [], harness := (true, "6e158fec90c070c7cf5e38694df7a454c1d502b9c7c468e013cf39bde505f510"), looks := true }, kinds := [], alts := [], laidByText := true, laidKinds := [.data, .data, .data, .data, .data], laidTests := true, laidLooks := .later }
def ExprCountUptoCardSaid : Prop := Claim7.holds Tryz.pinned (.plain (OpenSpec.upto exprCountSpec)) exprCountUptoCard

/-- THE SECOND FORM's CARD OF 'gaugehousekeep.ExprWider'. -/
def exprWiderUptoCard : Claim7 := { stood := { row := exprWiderUptoRow, standIns := [], harness := (true, "6e158fec90c070c7cf5e38694df7a454c1d502b9c7c468e013cf39bde505f510"), looks := true }, kinds := [], alts := [], laidByText := true, laidKinds := [.data, .data, .data, .data, .data], laidTests := true, laidLooks := .later }
def ExprWiderUptoCardSaid : Prop := Claim7.holds Tryz.pinned (.plain (OpenSpec.upto exprWiderSpec)) exprWiderUptoCard

/-- THE SECOND FORM's CARD OF 'gaugehousekeep.ExprSum'. -/
def exprSumUptoCard : Claim7 := { stood := { row := exprSumUptoRow, standIns := [], harness := (true, "6e158fec90c070c7cf5e38694df7a454c1d502b9c7c468e013cf39bde505f510"), looks := true }, kinds := [], alts := [], laidByText := true, laidKinds := [.data, .data, .data, .data, .data], laidTests := true, laidLooks := .later }
def ExprSumUptoCardSaid : Prop := Claim7.holds Tryz.pinned (.plain (OpenSpec.upto exprSumSpec)) exprSumUptoCard

/-- THE SECOND FORM's CARD OF 'gaugehousekeep.ExprLess'. -/
def exprLessUptoCard : Claim7 := { stood := { row := exprLessUptoRow, standIns := [], harness := (true, "6e158fec90c070c7cf5e38694df7a454c1d502b9c7c468e013cf39bde505f510"), looks := true }, kinds := [], alts := [], laidByText := true, laidKinds := [.data, .data, .data, .data, .data], laidTests := true, laidLooks := .later }
def ExprLessUptoCardSaid : Prop := Claim7.holds Tryz.pinned (.plain (OpenSpec.upto exprLessSpec)) exprLessUptoCard

/-- THE SECOND FORM's CARD OF 'gaugehousekeep.ExprElse'. -/
def exprElseUptoCard : Claim7 := { stood := { row := exprElseUptoRow, standIns := [], harness := (true, "6e158fec90c070c7cf5e38694df7a454c1d502b9c7c468e013cf39bde505f510"), looks := true }, kinds := [], alts := [], laidByText := true, laidKinds := [.data, .data, .data, .data, .data], laidTests := true, laidLooks := .later }
def ExprElseUptoCardSaid : Prop := Claim7.holds Tryz.pinned (.plain (OpenSpec.upto exprElseSpec)) exprElseUptoCard

/-- THE SECOND FORM's CARD OF 'gaugehousekeep.ExprBack'. -/
def exprBackUptoCard : Claim7 := { stood := { row := exprBackUptoRow, standIns := [], harness := (true, "6e158fec90c070c7cf5e38694df7a454c1d502b9c7c468e013cf39bde505f510"), looks := true }, kinds := [], alts := [], laidByText := true, laidKinds := [.data, .data, .data, .data, .sentinel, .sentinel, .data, .data, .pinned], laidTests := true, laidLooks := .later }
def ExprBackUptoCardSaid : Prop := Claim7.holds Tryz.pinned (.plain (OpenSpec.upto exprBackSpec)) exprBackUptoCard

/-- THE SECOND FORM's CARD OF 'gaugehousekeep.ExprOne'. -/
def exprOneUptoCard : Claim7 := { stood := { row := exprOneUptoRow, standIns := [], harness := (true, "6e158fec90c070c7cf5e38694df7a454c1d502b9c7c468e013cf39bde505f510"), looks := true }, kinds := [], alts := [], laidByText := true, laidKinds := [.data, .data, .data, .data, .sentinel, .sentinel, .data, .data, .pinned], laidTests := true, laidLooks := .later }
def ExprOneUptoCardSaid : Prop := Claim7.holds Tryz.pinned (.plain (OpenSpec.upto exprOneSpec)) exprOneUptoCard
end Rows
end Go.Proofs.YtnicbhmeigpjkaaGreatDoor
