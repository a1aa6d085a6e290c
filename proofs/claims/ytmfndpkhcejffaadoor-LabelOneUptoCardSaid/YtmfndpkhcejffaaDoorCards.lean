/-
  DERIVED. GIVEN WITH THE SEED: THE CARDS: each row of YtmfndpkhcejffaaDoorRows.lean that lists a variable, with what it lists TIED to the program's text (the seventh form; the later family's looks); each row that meets fmt, with fmt's text TOLD by the authors' own Lean function (tested against real Go, not proved from fmt's source: count such statements apart). THE CARD IS WHAT COUNTS. Prove the row's statement (the work); the ties are given (YtmfndpkhcejffaaDoorTie.lean); close each card by the builder's one call (the guide's Derived/Test/ToyasCard.lean, 'card_holds'). Laid BY PROGRAM, IN A SANDBOX (cutbox-door.mjs). By AI agents, Wed Nov 11 2026. No macro, syntax, notation, axiom, sorry.
-/
import Derived.Test.YtmfndpkhcejffaaDoorRows
import GoSem.ClaimSeven
namespace Go.Proofs.YtmfndpkhcejffaaDoor
namespace Rows

/-- THE TIED CARD OF 'gaugehousekeep.LabelNot'. -/
def labelNotCard : Claim7 := { stood := { row := labelNotRow, standIns := [], harness := (true, "ba5d270440eba56b253c7fc5e3386af5215e9d7329bcc01cad1f9738afb46d0e"), looks := true }, kinds := [], alts := [], laidByText := true, laidKinds := [.data], laidTests := true, laidLooks := .later }
def LabelNotCardSaid : Prop := Claim7.holds Tryd.pinned (.plain (OpenSpec.ofChange labelNotSpec)) labelNotCard

/-- THE TIED CARD OF 'gaugehousekeep.LabelFront'. -/
def labelFrontCard : Claim7 := { stood := { row := labelFrontRow, standIns := [], harness := (true, "ba5d270440eba56b253c7fc5e3386af5215e9d7329bcc01cad1f9738afb46d0e"), looks := true }, kinds := [], alts := [], laidByText := true, laidKinds := [.data], laidTests := true, laidLooks := .later }
def LabelFrontCardSaid : Prop := Claim7.holds Tryd.pinned (.plain (OpenSpec.ofChange labelFrontSpec)) labelFrontCard

/-- THE TIED CARD OF 'gaugehousekeep.LabelMore'. -/
def labelMoreCard : Claim7 := { stood := { row := labelMoreRow, standIns := [], harness := (true, "ba5d270440eba56b253c7fc5e3386af5215e9d7329bcc01cad1f9738afb46d0e"), looks := true }, kinds := [], alts := [], laidByText := true, laidKinds := [.data], laidTests := true, laidLooks := .later }
def LabelMoreCardSaid : Prop := Claim7.holds Tryd.pinned (.plain (OpenSpec.ofChange labelMoreSpec)) labelMoreCard

/-- THE TIED CARD OF 'gaugehousekeep.LabelOne'. -/
def labelOneCard : Claim7 := { stood := { row := labelOneRow, standIns := [], harness := (true, "ba5d270440eba56b253c7fc5e3386af5215e9d7329bcc01cad1f9738afb46d0e"), looks := true }, kinds := [], alts := [], laidByText := true, laidKinds := [.data], laidTests := true, laidLooks := .later }
def LabelOneCardSaid : Prop := Claim7.holds Tryd.pinned (.plain (OpenSpec.ofChange labelOneSpec)) labelOneCard

/-- THE SECOND FORM's CARD OF 'gaugehousekeep.LabelNot'. -/
def labelNotUptoCard : Claim7 := { stood := { row := labelNotUptoRow, standIns := [], harness := (true, "ba5d270440eba56b253c7fc5e3386af5215e9d7329bcc01cad1f9738afb46d0e"), looks := true }, kinds := [], alts := [], laidByText := true, laidKinds := [.data], laidTests := true, laidLooks := .later }
def LabelNotUptoCardSaid : Prop := Claim7.holds Tryd.pinned (.plain (OpenSpec.upto labelNotSpec)) labelNotUptoCard

/-- THE SECOND FORM's CARD OF 'gaugehousekeep.LabelFront'. -/
def labelFrontUptoCard : Claim7 := { stood := { row := labelFrontUptoRow, standIns := [], harness := (true, "ba5d270440eba56b253c7fc5e3386af5215e9d7329bcc01cad1f9738afb46d0e"), looks := true }, kinds := [], alts := [], laidByText := true, laidKinds := [.data], laidTests := true, laidLooks := .later }
def LabelFrontUptoCardSaid : Prop := Claim7.holds Tryd.pinned (.plain (OpenSpec.upto labelFrontSpec)) labelFrontUptoCard

/-- THE SECOND FORM's CARD OF 'gaugehousekeep.LabelMore'. -/
def labelMoreUptoCard : Claim7 := { stood := { row := labelMoreUptoRow, standIns := [], harness := (true, "ba5d270440eba56b253c7fc5e3386af5215e9d7329bcc01cad1f9738afb46d0e"), looks := true }, kinds := [], alts := [], laidByText := true, laidKinds := [.data], laidTests := true, laidLooks := .later }
def LabelMoreUptoCardSaid : Prop := Claim7.holds Tryd.pinned (.plain (OpenSpec.upto labelMoreSpec)) labelMoreUptoCard

/-- THE SECOND FORM's CARD OF 'gaugehousekeep.LabelOne'. -/
def labelOneUptoCard : Claim7 := { stood := { row := labelOneUptoRow, standIns := [], harness := (true, "ba5d270440eba56b253c7fc5e3386af5215e9d7329bcc01cad1f9738afb46d0e"), looks := true }, kinds := [], alts := [], laidByText := true, laidKinds := [.data], laidTests := true, laidLooks := .later }
def LabelOneUptoCardSaid : Prop := Claim7.holds Tryd.pinned (.plain (OpenSpec.upto labelOneSpec)) labelOneUptoCard
end Rows
end Go.Proofs.YtmfndpkhcejffaaDoor
