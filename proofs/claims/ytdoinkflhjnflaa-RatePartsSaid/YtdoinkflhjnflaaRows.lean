/-
  No cell of these rows narrows 'for every input' (looked for: loops, veiled, ifaces, maps, wideKeys, modest, calm, conditions, laid).
  DERIVED. THE GIVEN ROWS OF THIS SEAT. 10 by the template 'for every input the law returns true; each argument reads behind the call as it read before'; 0 by the template 'total and deterministic' (their statements: YtdoinkflhjnflaaTotals.lean).
  GIVEN WITH THE SEED: the statements are not yours to turn. If you find one false, say at which input.
  Laid BY PROGRAM, IN A SANDBOX (cutbox-rows.mjs): the forced cells as the released guide's own fill.sh prints them over the translation 0c94b5c8206d6189… (all of the seat's roots in one cut). By AI agents, Wed Nov 11 2026. No macro, syntax, notation, axiom, sorry.
-/
import Derived.Test.YtdoinkflhjnflaaChecked
import GoSem.Claim
import GoSem.ClaimJoined
import GoSem.ClaimMapViews
import Derived.JoinedTies
import Derived.KernelRfl
namespace Go.Proofs.Ytdoinkflhjnflaa
/- THE CELL 'sum', in the pinned program and in every row, IS THE sha256 OF THE DUMP (.gsa) THAT YtdoinkflhjnflaaProg.lean LOADS. Nothing in Lean hashes anything: it is a label: what it is worth is what the hold of that sum in a sandbox is worth. -/
noncomputable def Try.pinned : Pinned := { name := "ytdoinkflhjnflaa", sum := "0c94b5c8206d6189d50ea49b855dd6f9967d60c5388766e34acabfd023eb0111", checked := Try.checked }
namespace Rows
def none {H : Type} : Left H := { results := [], args := [] }

/-- 'gaugehousekeep.BitsNear': WHATEVER THE INPUT: true; the input reads as it did. -/
def bitsNearSpec : ChangeSpec := { name := "bitsNear", fn := fun _ => fun
  | [d1, d2] => { results := [.lit (.bool true)], args := [d1, d2] }
  | _ => none }
def bitsNearRow : OpenClaim := { program := "ytdoinkflhjnflaa", sum := "0c94b5c8206d6189d50ea49b855dd6f9967d60c5388766e34acabfd023eb0111", func := "gaugehouse/gaugehousekeep.BitsNear", spec := "bitsNear", apart := false }
def BitsNearSaid : Prop := bitsNearRow.holds Try.pinned (OpenSpec.ofChange bitsNearSpec)

/-- ITS FALSE NEIGHBOUR: 'it returns false'. Refute it at one input. -/
def bitsNearWrong : ChangeSpec := { name := "bitsNear", fn := fun _ => fun
  | [d1, d2] => { results := [.lit (.bool false)], args := [d1, d2] }
  | _ => none }
def BitsNearWrongFalsely : Prop := bitsNearRow.holds Try.pinned (OpenSpec.ofChange bitsNearWrong)

/-- 'gaugehousekeep.BitsOne': WHATEVER THE INPUT: true; the input reads as it did. -/
def bitsOneSpec : ChangeSpec := { name := "bitsOne", fn := fun _ => fun
  | [d] => { results := [.lit (.bool true)], args := [d] }
  | _ => none }
def bitsOneRow : OpenClaim := { program := "ytdoinkflhjnflaa", sum := "0c94b5c8206d6189d50ea49b855dd6f9967d60c5388766e34acabfd023eb0111", func := "gaugehouse/gaugehousekeep.BitsOne", spec := "bitsOne", apart := false }
def BitsOneSaid : Prop := bitsOneRow.holds Try.pinned (OpenSpec.ofChange bitsOneSpec)

/-- ITS FALSE NEIGHBOUR: 'it returns false'. Refute it at one input. -/
def bitsOneWrong : ChangeSpec := { name := "bitsOne", fn := fun _ => fun
  | [d] => { results := [.lit (.bool false)], args := [d] }
  | _ => none }
def BitsOneWrongFalsely : Prop := bitsOneRow.holds Try.pinned (OpenSpec.ofChange bitsOneWrong)

/-- 'gaugehousekeep.HashBack': WHATEVER THE INPUT: true; the input reads as it did. -/
def hashBackSpec : ChangeSpec := { name := "hashBack", fn := fun _ => fun
  | [d] => { results := [.lit (.bool true)], args := [d] }
  | _ => none }
def hashBackRow : OpenClaim := { program := "ytdoinkflhjnflaa", sum := "0c94b5c8206d6189d50ea49b855dd6f9967d60c5388766e34acabfd023eb0111", func := "gaugehouse/gaugehousekeep.HashBack", spec := "hashBack", apart := false }
def HashBackSaid : Prop := hashBackRow.holds Try.pinned (OpenSpec.ofChange hashBackSpec)

/-- ITS FALSE NEIGHBOUR: 'it returns false'. Refute it at one input. -/
def hashBackWrong : ChangeSpec := { name := "hashBack", fn := fun _ => fun
  | [d] => { results := [.lit (.bool false)], args := [d] }
  | _ => none }
def HashBackWrongFalsely : Prop := hashBackRow.holds Try.pinned (OpenSpec.ofChange hashBackWrong)

/-- 'gaugehousekeep.RateSteady': WHATEVER THE INPUT: true; the input reads as it did. -/
def rateSteadySpec : ChangeSpec := { name := "rateSteady", fn := fun _ => fun
  | [d] => { results := [.lit (.bool true)], args := [d] }
  | _ => none }
def rateSteadyRow : OpenClaim := { program := "ytdoinkflhjnflaa", sum := "0c94b5c8206d6189d50ea49b855dd6f9967d60c5388766e34acabfd023eb0111", func := "gaugehouse/gaugehousekeep.RateSteady", spec := "rateSteady", apart := false }
def RateSteadySaid : Prop := rateSteadyRow.holds Try.pinned (OpenSpec.ofChange rateSteadySpec)

/-- ITS FALSE NEIGHBOUR: 'it returns false'. Refute it at one input. -/
def rateSteadyWrong : ChangeSpec := { name := "rateSteady", fn := fun _ => fun
  | [d] => { results := [.lit (.bool false)], args := [d] }
  | _ => none }
def RateSteadyWrongFalsely : Prop := rateSteadyRow.holds Try.pinned (OpenSpec.ofChange rateSteadyWrong)

/-- 'gaugehousekeep.BitsBack': WHATEVER THE INPUT: true; the input reads as it did. -/
def bitsBackSpec : ChangeSpec := { name := "bitsBack", fn := fun _ => fun
  | [d1, d2, d3] => { results := [.lit (.bool true)], args := [d1, d2, d3] }
  | _ => none }
def bitsBackRow : OpenClaim := { program := "ytdoinkflhjnflaa", sum := "0c94b5c8206d6189d50ea49b855dd6f9967d60c5388766e34acabfd023eb0111", func := "gaugehouse/gaugehousekeep.BitsBack", spec := "bitsBack", apart := false }
def BitsBackSaid : Prop := bitsBackRow.holds Try.pinned (OpenSpec.ofChange bitsBackSpec)

/-- ITS FALSE NEIGHBOUR: 'it returns false'. Refute it at one input. -/
def bitsBackWrong : ChangeSpec := { name := "bitsBack", fn := fun _ => fun
  | [d1, d2, d3] => { results := [.lit (.bool false)], args := [d1, d2, d3] }
  | _ => none }
def BitsBackWrongFalsely : Prop := bitsBackRow.holds Try.pinned (OpenSpec.ofChange bitsBackWrong)

/-- 'gaugehousekeep.HashApart': WHATEVER THE INPUT: true; the input reads as it did. -/
def hashApartSpec : ChangeSpec := { name := "hashApart", fn := fun _ => fun
  | [d1, d2, d3] => { results := [.lit (.bool true)], args := [d1, d2, d3] }
  | _ => none }
def hashApartRow : OpenClaim := { program := "ytdoinkflhjnflaa", sum := "0c94b5c8206d6189d50ea49b855dd6f9967d60c5388766e34acabfd023eb0111", func := "gaugehouse/gaugehousekeep.HashApart", spec := "hashApart", apart := false }
def HashApartSaid : Prop := hashApartRow.holds Try.pinned (OpenSpec.ofChange hashApartSpec)

/-- ITS FALSE NEIGHBOUR: 'it returns false'. Refute it at one input. -/
def hashApartWrong : ChangeSpec := { name := "hashApart", fn := fun _ => fun
  | [d1, d2, d3] => { results := [.lit (.bool false)], args := [d1, d2, d3] }
  | _ => none }
def HashApartWrongFalsely : Prop := hashApartRow.holds Try.pinned (OpenSpec.ofChange hashApartWrong)

/-- 'gaugehousekeep.RateParts': WHATEVER THE INPUT: true; the input reads as it did. -/
def ratePartsSpec : ChangeSpec := { name := "rateParts", fn := fun _ => fun
  | [d1, d2] => { results := [.lit (.bool true)], args := [d1, d2] }
  | _ => none }
def ratePartsRow : OpenClaim := { program := "ytdoinkflhjnflaa", sum := "0c94b5c8206d6189d50ea49b855dd6f9967d60c5388766e34acabfd023eb0111", func := "gaugehouse/gaugehousekeep.RateParts", spec := "rateParts", unfollowed := true, recurses := true, apart := false }
def RatePartsSaid : Prop := ratePartsRow.holds Try.pinned (OpenSpec.ofChange ratePartsSpec)

/-- ITS FALSE NEIGHBOUR: 'it returns false'. Refute it at one input. -/
def ratePartsWrong : ChangeSpec := { name := "rateParts", fn := fun _ => fun
  | [d1, d2] => { results := [.lit (.bool false)], args := [d1, d2] }
  | _ => none }
def RatePartsWrongFalsely : Prop := ratePartsRow.holds Try.pinned (OpenSpec.ofChange ratePartsWrong)

/-- 'gaugehousekeep.HashOne': WHATEVER THE INPUT: true; the input reads as it did. -/
def hashOneSpec : ChangeSpec := { name := "hashOne", fn := fun _ => fun
  | [d1, d2, d3, d4] => { results := [.lit (.bool true)], args := [d1, d2, d3, d4] }
  | _ => none }
def hashOneRow : OpenClaim := { program := "ytdoinkflhjnflaa", sum := "0c94b5c8206d6189d50ea49b855dd6f9967d60c5388766e34acabfd023eb0111", func := "gaugehouse/gaugehousekeep.HashOne", spec := "hashOne", apart := false }
def HashOneSaid : Prop := hashOneRow.holds Try.pinned (OpenSpec.ofChange hashOneSpec)

/-- ITS FALSE NEIGHBOUR: 'it returns false'. Refute it at one input. -/
def hashOneWrong : ChangeSpec := { name := "hashOne", fn := fun _ => fun
  | [d1, d2, d3, d4] => { results := [.lit (.bool false)], args := [d1, d2, d3, d4] }
  | _ => none }
def HashOneWrongFalsely : Prop := hashOneRow.holds Try.pinned (OpenSpec.ofChange hashOneWrong)

/-- 'gaugehousekeep.BitsJoin': WHATEVER THE INPUT: true; the input reads as it did. -/
def bitsJoinSpec : ChangeSpec := { name := "bitsJoin", fn := fun _ => fun
  | [d1, d2, d3, d4] => { results := [.lit (.bool true)], args := [d1, d2, d3, d4] }
  | _ => none }
def bitsJoinRow : OpenClaim := { program := "ytdoinkflhjnflaa", sum := "0c94b5c8206d6189d50ea49b855dd6f9967d60c5388766e34acabfd023eb0111", func := "gaugehouse/gaugehousekeep.BitsJoin", spec := "bitsJoin", unfollowed := true, recurses := true, apart := false }
def BitsJoinSaid : Prop := bitsJoinRow.holds Try.pinned (OpenSpec.ofChange bitsJoinSpec)

/-- ITS FALSE NEIGHBOUR: 'it returns false'. Refute it at one input. -/
def bitsJoinWrong : ChangeSpec := { name := "bitsJoin", fn := fun _ => fun
  | [d1, d2, d3, d4] => { results := [.lit (.bool false)], args := [d1, d2, d3, d4] }
  | _ => none }
def BitsJoinWrongFalsely : Prop := bitsJoinRow.holds Try.pinned (OpenSpec.ofChange bitsJoinWrong)

/-- 'gaugehousekeep.RollBounds': WHATEVER THE INPUT: true; the input reads as it did. -/
def rollBoundsSpec : ChangeSpec := { name := "rollBounds", fn := fun _ => fun
  | [d1, d2] => { results := [.lit (.bool true)], args := [d1, d2] }
  | _ => none }
def rollBoundsRow : OpenClaim := { program := "ytdoinkflhjnflaa", sum := "0c94b5c8206d6189d50ea49b855dd6f9967d60c5388766e34acabfd023eb0111", func := "gaugehouse/gaugehousekeep.RollBounds", spec := "rollBounds", apart := false }
def RollBoundsSaid : Prop := rollBoundsRow.holds Try.pinned (OpenSpec.ofChange rollBoundsSpec)

/-- ITS FALSE NEIGHBOUR: 'it returns false'. Refute it at one input. -/
def rollBoundsWrong : ChangeSpec := { name := "rollBounds", fn := fun _ => fun
  | [d1, d2] => { results := [.lit (.bool false)], args := [d1, d2] }
  | _ => none }
def RollBoundsWrongFalsely : Prop := rollBoundsRow.holds Try.pinned (OpenSpec.ofChange rollBoundsWrong)

/- THE SECOND FORM. 'bulk': how many values and letters a reading holds, each counted each time it is reached (what is shared counts as often as it is met; a slice's spare places count too). A statement '..UptoSaid' is the law's where the arguments, and the package variables that the reading takes, are together of bulk at most 1048576: NARROWER than '..Said'. Prove '..Said' where nothing that the law and all that it calls make is longer than what came in: it says more and counts as full. Else prove '..UptoSaid'. A law counts once. -/
mutual
def uptoBulk {H : Type} : DataW H → Nat
  | .lit (.string bytes) => bytes.length + 1
  | .lit _ => 1
  | .nil => 1
  | .ptr d => uptoBulk d + 1
  | .slice elems spare => uptoBulkAll elems + uptoBulkAll spare + 1
  | .agg parts => uptoBulkAll parts + 1
  | .iface _ d => uptoBulk d + 1
  | .map entries => uptoBulkEntries entries + 1
  | .held _ => 1
def uptoBulkAll {H : Type} : List (DataW H) → Nat
  | [] => 0
  | d :: r => uptoBulk d + uptoBulkAll r
def uptoBulkEntries {H : Type} : List (Lit × DataW H) → Nat
  | [] => 0
  | x :: r => uptoBulkEntry x + uptoBulkEntries r
def uptoBulkEntry {H : Type} : Lit × DataW H → Nat
  | (.string bytes, d) => bytes.length + uptoBulk d + 1
  | (_, d) => uptoBulk d + 1
 end
def uptoSmall : (H : Type) → List (DataW H) → Bool := fun _ ds => decide (uptoBulkAll ds ≤ 1048576)
def OpenSpec.upto (s : _root_.Go.ChangeSpec) : _root_.Go.OpenSpec := { _root_.Go.OpenSpec.ofChange s with cond := some uptoSmall }

/-- 'gaugehousekeep.BitsNear', WHERE WHAT IT READS IS OF BULK AT MOST 1048576: true; the input reads as it did. -/
def bitsNearUptoRow : OpenClaim := { program := "ytdoinkflhjnflaa", sum := "0c94b5c8206d6189d50ea49b855dd6f9967d60c5388766e34acabfd023eb0111", func := "gaugehouse/gaugehousekeep.BitsNear", spec := "bitsNear", apart := false, narrowed := true }
def BitsNearUptoSaid : Prop := bitsNearUptoRow.holds Try.pinned (OpenSpec.upto bitsNearSpec)

/-- 'gaugehousekeep.BitsOne', WHERE WHAT IT READS IS OF BULK AT MOST 1048576: true; the input reads as it did. -/
def bitsOneUptoRow : OpenClaim := { program := "ytdoinkflhjnflaa", sum := "0c94b5c8206d6189d50ea49b855dd6f9967d60c5388766e34acabfd023eb0111", func := "gaugehouse/gaugehousekeep.BitsOne", spec := "bitsOne", apart := false, narrowed := true }
def BitsOneUptoSaid : Prop := bitsOneUptoRow.holds Try.pinned (OpenSpec.upto bitsOneSpec)

/-- 'gaugehousekeep.HashBack', WHERE WHAT IT READS IS OF BULK AT MOST 1048576: true; the input reads as it did. -/
def hashBackUptoRow : OpenClaim := { program := "ytdoinkflhjnflaa", sum := "0c94b5c8206d6189d50ea49b855dd6f9967d60c5388766e34acabfd023eb0111", func := "gaugehouse/gaugehousekeep.HashBack", spec := "hashBack", apart := false, narrowed := true }
def HashBackUptoSaid : Prop := hashBackUptoRow.holds Try.pinned (OpenSpec.upto hashBackSpec)

/-- 'gaugehousekeep.RateSteady', WHERE WHAT IT READS IS OF BULK AT MOST 1048576: true; the input reads as it did. -/
def rateSteadyUptoRow : OpenClaim := { program := "ytdoinkflhjnflaa", sum := "0c94b5c8206d6189d50ea49b855dd6f9967d60c5388766e34acabfd023eb0111", func := "gaugehouse/gaugehousekeep.RateSteady", spec := "rateSteady", apart := false, narrowed := true }
def RateSteadyUptoSaid : Prop := rateSteadyUptoRow.holds Try.pinned (OpenSpec.upto rateSteadySpec)

/-- 'gaugehousekeep.BitsBack', WHERE WHAT IT READS IS OF BULK AT MOST 1048576: true; the input reads as it did. -/
def bitsBackUptoRow : OpenClaim := { program := "ytdoinkflhjnflaa", sum := "0c94b5c8206d6189d50ea49b855dd6f9967d60c5388766e34acabfd023eb0111", func := "gaugehouse/gaugehousekeep.BitsBack", spec := "bitsBack", apart := false, narrowed := true }
def BitsBackUptoSaid : Prop := bitsBackUptoRow.holds Try.pinned (OpenSpec.upto bitsBackSpec)

/-- 'gaugehousekeep.HashApart', WHERE WHAT IT READS IS OF BULK AT MOST 1048576: true; the input reads as it did. -/
def hashApartUptoRow : OpenClaim := { program := "ytdoinkflhjnflaa", sum := "0c94b5c8206d6189d50ea49b855dd6f9967d60c5388766e34acabfd023eb0111", func := "gaugehouse/gaugehousekeep.HashApart", spec := "hashApart", apart := false, narrowed := true }
def HashApartUptoSaid : Prop := hashApartUptoRow.holds Try.pinned (OpenSpec.upto hashApartSpec)

/-- 'gaugehousekeep.RateParts', WHERE WHAT IT READS IS OF BULK AT MOST 1048576: true; the input reads as it did. -/
def ratePartsUptoRow : OpenClaim := { program := "ytdoinkflhjnflaa", sum := "0c94b5c8206d6189d50ea49b855dd6f9967d60c5388766e34acabfd023eb0111", func := "gaugehouse/gaugehousekeep.RateParts", spec := "rateParts", unfollowed := true, recurses := true, apart := false, narrowed := true }
def RatePartsUptoSaid : Prop := ratePartsUptoRow.holds Try.pinned (OpenSpec.upto ratePartsSpec)

/-- 'gaugehousekeep.HashOne', WHERE WHAT IT READS IS OF BULK AT MOST 1048576: true; the input reads as it did. -/
def hashOneUptoRow : OpenClaim := { program := "ytdoinkflhjnflaa", sum := "0c94b5c8206d6189d50ea49b855dd6f9967d60c5388766e34acabfd023eb0111", func := "gaugehouse/gaugehousekeep.HashOne", spec := "hashOne", apart := false, narrowed := true }
def HashOneUptoSaid : Prop := hashOneUptoRow.holds Try.pinned (OpenSpec.upto hashOneSpec)

/-- 'gaugehousekeep.BitsJoin', WHERE WHAT IT READS IS OF BULK AT MOST 1048576: true; the input reads as it did. -/
def bitsJoinUptoRow : OpenClaim := { program := "ytdoinkflhjnflaa", sum := "0c94b5c8206d6189d50ea49b855dd6f9967d60c5388766e34acabfd023eb0111", func := "gaugehouse/gaugehousekeep.BitsJoin", spec := "bitsJoin", unfollowed := true, recurses := true, apart := false, narrowed := true }
def BitsJoinUptoSaid : Prop := bitsJoinUptoRow.holds Try.pinned (OpenSpec.upto bitsJoinSpec)

/-- 'gaugehousekeep.RollBounds', WHERE WHAT IT READS IS OF BULK AT MOST 1048576: true; the input reads as it did. -/
def rollBoundsUptoRow : OpenClaim := { program := "ytdoinkflhjnflaa", sum := "0c94b5c8206d6189d50ea49b855dd6f9967d60c5388766e34acabfd023eb0111", func := "gaugehouse/gaugehousekeep.RollBounds", spec := "rollBounds", apart := false, narrowed := true }
def RollBoundsUptoSaid : Prop := rollBoundsUptoRow.holds Try.pinned (OpenSpec.upto rollBoundsSpec)

end Rows
end Go.Proofs.Ytdoinkflhjnflaa
