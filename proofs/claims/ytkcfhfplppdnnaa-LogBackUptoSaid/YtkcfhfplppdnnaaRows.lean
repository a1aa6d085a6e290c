/-
  No cell of these rows narrows 'for every input' (looked for: loops, veiled, ifaces, maps, wideKeys, modest, calm, conditions, laid).
  DERIVED. THE GIVEN ROWS OF THIS SEAT. 12 by the template 'for every input the law returns true; each argument reads behind the call as it read before'; 0 by the template 'total and deterministic' (their statements: YtkcfhfplppdnnaaTotals.lean).
  GIVEN WITH THE SEED: the statements are not yours to turn. If you find one false, say at which input.
  Laid BY PROGRAM, IN A SANDBOX (cutbox-rows.mjs): the forced cells as the released guide's own fill.sh prints them over the translation 5193517a21c89ef3… (all of the seat's roots in one cut). By AI agents, Wed Nov 11 2026. No macro, syntax, notation, axiom, sorry.
-/
import Derived.Test.YtkcfhfplppdnnaaChecked
import GoSem.Claim
import GoSem.ClaimJoined
import GoSem.ClaimMapViews
import Derived.JoinedTies
import Derived.KernelRfl
namespace Go.Proofs.Ytkcfhfplppdnnaa
/- THE CELL 'sum', in the pinned program and in every row, IS THE sha256 OF THE DUMP (.gsa) THAT YtkcfhfplppdnnaaProg.lean LOADS. Nothing in Lean hashes anything: it is a label: what it is worth is what the hold of that sum in a sandbox is worth. -/
noncomputable def Try.pinned : Pinned := { name := "ytkcfhfplppdnnaa", sum := "5193517a21c89ef3c8cb2e3283e12db6ea5b185cce3fba43d040a90dde98d934", checked := Try.checked }
namespace Rows
def none {H : Type} : Left H := { results := [], args := [] }

/-- 'gaugehousekeep.RollBounds': WHATEVER THE INPUT: true; the input reads as it did. -/
def rollBoundsSpec : ChangeSpec := { name := "rollBounds", fn := fun _ => fun
  | [d1, d2] => { results := [.lit (.bool true)], args := [d1, d2] }
  | _ => none }
def rollBoundsRow : OpenClaim := { program := "ytkcfhfplppdnnaa", sum := "5193517a21c89ef3c8cb2e3283e12db6ea5b185cce3fba43d040a90dde98d934", func := "gaugehouse/gaugehousekeep.RollBounds", spec := "rollBounds", apart := false }
def RollBoundsSaid : Prop := rollBoundsRow.holds Try.pinned (OpenSpec.ofChange rollBoundsSpec)

/-- ITS FALSE NEIGHBOUR: 'it returns false'. Refute it at one input. -/
def rollBoundsWrong : ChangeSpec := { name := "rollBounds", fn := fun _ => fun
  | [d1, d2] => { results := [.lit (.bool false)], args := [d1, d2] }
  | _ => none }
def RollBoundsWrongFalsely : Prop := rollBoundsRow.holds Try.pinned (OpenSpec.ofChange rollBoundsWrong)

/-- 'gaugehousekeep.LogFull': WHATEVER THE INPUT: true; the input reads as it did. -/
def logFullSpec : ChangeSpec := { name := "logFull", fn := fun _ => fun
  | [d] => { results := [.lit (.bool true)], args := [d] }
  | _ => none }
def logFullRow : OpenClaim := { program := "ytkcfhfplppdnnaa", sum := "5193517a21c89ef3c8cb2e3283e12db6ea5b185cce3fba43d040a90dde98d934", func := "gaugehouse/gaugehousekeep.LogFull", spec := "logFull", apart := false }
def LogFullSaid : Prop := logFullRow.holds Try.pinned (OpenSpec.ofChange logFullSpec)

/-- ITS FALSE NEIGHBOUR: 'it returns false'. Refute it at one input. -/
def logFullWrong : ChangeSpec := { name := "logFull", fn := fun _ => fun
  | [d] => { results := [.lit (.bool false)], args := [d] }
  | _ => none }
def LogFullWrongFalsely : Prop := logFullRow.holds Try.pinned (OpenSpec.ofChange logFullWrong)

/-- 'gaugehousekeep.ChunkUpper': WHATEVER THE INPUT: true; the input reads as it did. -/
def chunkUpperSpec : ChangeSpec := { name := "chunkUpper", fn := fun _ => fun
  | [d1, d2] => { results := [.lit (.bool true)], args := [d1, d2] }
  | _ => none }
def chunkUpperRow : OpenClaim := { program := "ytkcfhfplppdnnaa", sum := "5193517a21c89ef3c8cb2e3283e12db6ea5b185cce3fba43d040a90dde98d934", func := "gaugehouse/gaugehousekeep.ChunkUpper", spec := "chunkUpper", unfollowed := true, recurses := true, apart := false }
def ChunkUpperSaid : Prop := chunkUpperRow.holds Try.pinned (OpenSpec.ofChange chunkUpperSpec)

/-- ITS FALSE NEIGHBOUR: 'it returns false'. Refute it at one input. -/
def chunkUpperWrong : ChangeSpec := { name := "chunkUpper", fn := fun _ => fun
  | [d1, d2] => { results := [.lit (.bool false)], args := [d1, d2] }
  | _ => none }
def ChunkUpperWrongFalsely : Prop := chunkUpperRow.holds Try.pinned (OpenSpec.ofChange chunkUpperWrong)

/-- 'gaugehousekeep.RollCounts': WHATEVER THE INPUT: true; the input reads as it did. -/
def rollCountsSpec : ChangeSpec := { name := "rollCounts", fn := fun _ => fun
  | [d1, d2] => { results := [.lit (.bool true)], args := [d1, d2] }
  | _ => none }
def rollCountsRow : OpenClaim := { program := "ytkcfhfplppdnnaa", sum := "5193517a21c89ef3c8cb2e3283e12db6ea5b185cce3fba43d040a90dde98d934", func := "gaugehouse/gaugehousekeep.RollCounts", spec := "rollCounts", apart := false }
def RollCountsSaid : Prop := rollCountsRow.holds Try.pinned (OpenSpec.ofChange rollCountsSpec)

/-- ITS FALSE NEIGHBOUR: 'it returns false'. Refute it at one input. -/
def rollCountsWrong : ChangeSpec := { name := "rollCounts", fn := fun _ => fun
  | [d1, d2] => { results := [.lit (.bool false)], args := [d1, d2] }
  | _ => none }
def RollCountsWrongFalsely : Prop := rollCountsRow.holds Try.pinned (OpenSpec.ofChange rollCountsWrong)

/-- 'gaugehousekeep.BitsParts': WHATEVER THE INPUT: true; the input reads as it did. -/
def bitsPartsSpec : ChangeSpec := { name := "bitsParts", fn := fun _ => fun
  | [d1, d2, d3, d4, d5] => { results := [.lit (.bool true)], args := [d1, d2, d3, d4, d5] }
  | _ => none }
def bitsPartsRow : OpenClaim := { program := "ytkcfhfplppdnnaa", sum := "5193517a21c89ef3c8cb2e3283e12db6ea5b185cce3fba43d040a90dde98d934", func := "gaugehouse/gaugehousekeep.BitsParts", spec := "bitsParts", apart := false }
def BitsPartsSaid : Prop := bitsPartsRow.holds Try.pinned (OpenSpec.ofChange bitsPartsSpec)

/-- ITS FALSE NEIGHBOUR: 'it returns false'. Refute it at one input. -/
def bitsPartsWrong : ChangeSpec := { name := "bitsParts", fn := fun _ => fun
  | [d1, d2, d3, d4, d5] => { results := [.lit (.bool false)], args := [d1, d2, d3, d4, d5] }
  | _ => none }
def BitsPartsWrongFalsely : Prop := bitsPartsRow.holds Try.pinned (OpenSpec.ofChange bitsPartsWrong)

/-- 'gaugehousekeep.ChunkLattice': WHATEVER THE INPUT: true; the input reads as it did. -/
def chunkLatticeSpec : ChangeSpec := { name := "chunkLattice", fn := fun _ => fun
  | [d1, d2, d3] => { results := [.lit (.bool true)], args := [d1, d2, d3] }
  | _ => none }
def chunkLatticeRow : OpenClaim := { program := "ytkcfhfplppdnnaa", sum := "5193517a21c89ef3c8cb2e3283e12db6ea5b185cce3fba43d040a90dde98d934", func := "gaugehouse/gaugehousekeep.ChunkLattice", spec := "chunkLattice", unfollowed := true, recurses := true, apart := false }
def ChunkLatticeSaid : Prop := chunkLatticeRow.holds Try.pinned (OpenSpec.ofChange chunkLatticeSpec)

/-- ITS FALSE NEIGHBOUR: 'it returns false'. Refute it at one input. -/
def chunkLatticeWrong : ChangeSpec := { name := "chunkLattice", fn := fun _ => fun
  | [d1, d2, d3] => { results := [.lit (.bool false)], args := [d1, d2, d3] }
  | _ => none }
def ChunkLatticeWrongFalsely : Prop := chunkLatticeRow.holds Try.pinned (OpenSpec.ofChange chunkLatticeWrong)

/-- 'gaugehousekeep.RollAgain': WHATEVER THE INPUT: true; the input reads as it did. -/
def rollAgainSpec : ChangeSpec := { name := "rollAgain", fn := fun _ => fun
  | [d1, d2, d3] => { results := [.lit (.bool true)], args := [d1, d2, d3] }
  | _ => none }
def rollAgainRow : OpenClaim := { program := "ytkcfhfplppdnnaa", sum := "5193517a21c89ef3c8cb2e3283e12db6ea5b185cce3fba43d040a90dde98d934", func := "gaugehouse/gaugehousekeep.RollAgain", spec := "rollAgain", unfollowed := true, recurses := true, apart := false }
def RollAgainSaid : Prop := rollAgainRow.holds Try.pinned (OpenSpec.ofChange rollAgainSpec)

/-- ITS FALSE NEIGHBOUR: 'it returns false'. Refute it at one input. -/
def rollAgainWrong : ChangeSpec := { name := "rollAgain", fn := fun _ => fun
  | [d1, d2, d3] => { results := [.lit (.bool false)], args := [d1, d2, d3] }
  | _ => none }
def RollAgainWrongFalsely : Prop := rollAgainRow.holds Try.pinned (OpenSpec.ofChange rollAgainWrong)

/-- 'gaugehousekeep.LogOne': WHATEVER THE INPUT: true; the input reads as it did. -/
def logOneSpec : ChangeSpec := { name := "logOne", fn := fun _ => fun
  | [d] => { results := [.lit (.bool true)], args := [d] }
  | _ => none }
def logOneRow : OpenClaim := { program := "ytkcfhfplppdnnaa", sum := "5193517a21c89ef3c8cb2e3283e12db6ea5b185cce3fba43d040a90dde98d934", func := "gaugehouse/gaugehousekeep.LogOne", spec := "logOne", apart := false }
def LogOneSaid : Prop := logOneRow.holds Try.pinned (OpenSpec.ofChange logOneSpec)

/-- ITS FALSE NEIGHBOUR: 'it returns false'. Refute it at one input. -/
def logOneWrong : ChangeSpec := { name := "logOne", fn := fun _ => fun
  | [d] => { results := [.lit (.bool false)], args := [d] }
  | _ => none }
def LogOneWrongFalsely : Prop := logOneRow.holds Try.pinned (OpenSpec.ofChange logOneWrong)

/-- 'gaugehousekeep.LogBack': WHATEVER THE INPUT: true; the input reads as it did. -/
def logBackSpec : ChangeSpec := { name := "logBack", fn := fun _ => fun
  | [d1, d2] => { results := [.lit (.bool true)], args := [d1, d2] }
  | _ => none }
def logBackRow : OpenClaim := { program := "ytkcfhfplppdnnaa", sum := "5193517a21c89ef3c8cb2e3283e12db6ea5b185cce3fba43d040a90dde98d934", func := "gaugehouse/gaugehousekeep.LogBack", spec := "logBack", unfollowed := true, recurses := true, apart := false }
def LogBackSaid : Prop := logBackRow.holds Try.pinned (OpenSpec.ofChange logBackSpec)

/-- ITS FALSE NEIGHBOUR: 'it returns false'. Refute it at one input. -/
def logBackWrong : ChangeSpec := { name := "logBack", fn := fun _ => fun
  | [d1, d2] => { results := [.lit (.bool false)], args := [d1, d2] }
  | _ => none }
def LogBackWrongFalsely : Prop := logBackRow.holds Try.pinned (OpenSpec.ofChange logBackWrong)

/-- 'gaugehousekeep.RollJoin': WHATEVER THE INPUT: true; the input reads as it did. -/
def rollJoinSpec : ChangeSpec := { name := "rollJoin", fn := fun _ => fun
  | [d1, d2, d3] => { results := [.lit (.bool true)], args := [d1, d2, d3] }
  | _ => none }
def rollJoinRow : OpenClaim := { program := "ytkcfhfplppdnnaa", sum := "5193517a21c89ef3c8cb2e3283e12db6ea5b185cce3fba43d040a90dde98d934", func := "gaugehouse/gaugehousekeep.RollJoin", spec := "rollJoin", unfollowed := true, recurses := true, apart := false }
def RollJoinSaid : Prop := rollJoinRow.holds Try.pinned (OpenSpec.ofChange rollJoinSpec)

/-- ITS FALSE NEIGHBOUR: 'it returns false'. Refute it at one input. -/
def rollJoinWrong : ChangeSpec := { name := "rollJoin", fn := fun _ => fun
  | [d1, d2, d3] => { results := [.lit (.bool false)], args := [d1, d2, d3] }
  | _ => none }
def RollJoinWrongFalsely : Prop := rollJoinRow.holds Try.pinned (OpenSpec.ofChange rollJoinWrong)

/-- 'gaugehousekeep.LogSync': WHATEVER THE INPUT: true; the input reads as it did. -/
def logSyncSpec : ChangeSpec := { name := "logSync", fn := fun _ => fun
  | [d1, d2] => { results := [.lit (.bool true)], args := [d1, d2] }
  | _ => none }
def logSyncRow : OpenClaim := { program := "ytkcfhfplppdnnaa", sum := "5193517a21c89ef3c8cb2e3283e12db6ea5b185cce3fba43d040a90dde98d934", func := "gaugehouse/gaugehousekeep.LogSync", spec := "logSync", apart := false }
def LogSyncSaid : Prop := logSyncRow.holds Try.pinned (OpenSpec.ofChange logSyncSpec)

/-- ITS FALSE NEIGHBOUR: 'it returns false'. Refute it at one input. -/
def logSyncWrong : ChangeSpec := { name := "logSync", fn := fun _ => fun
  | [d1, d2] => { results := [.lit (.bool false)], args := [d1, d2] }
  | _ => none }
def LogSyncWrongFalsely : Prop := logSyncRow.holds Try.pinned (OpenSpec.ofChange logSyncWrong)

/-- 'gaugehousekeep.LogCrash': WHATEVER THE INPUT: true; the input reads as it did. -/
def logCrashSpec : ChangeSpec := { name := "logCrash", fn := fun _ => fun
  | [d1, d2, d3, d4] => { results := [.lit (.bool true)], args := [d1, d2, d3, d4] }
  | _ => none }
def logCrashRow : OpenClaim := { program := "ytkcfhfplppdnnaa", sum := "5193517a21c89ef3c8cb2e3283e12db6ea5b185cce3fba43d040a90dde98d934", func := "gaugehouse/gaugehousekeep.LogCrash", spec := "logCrash", unfollowed := true, recurses := true, apart := false }
def LogCrashSaid : Prop := logCrashRow.holds Try.pinned (OpenSpec.ofChange logCrashSpec)

/-- ITS FALSE NEIGHBOUR: 'it returns false'. Refute it at one input. -/
def logCrashWrong : ChangeSpec := { name := "logCrash", fn := fun _ => fun
  | [d1, d2, d3, d4] => { results := [.lit (.bool false)], args := [d1, d2, d3, d4] }
  | _ => none }
def LogCrashWrongFalsely : Prop := logCrashRow.holds Try.pinned (OpenSpec.ofChange logCrashWrong)

/- THE SECOND FORM. 'bulk': how many values and letters a reading holds, each counted each time it is reached (what is shared counts as often as it is met; a slice's spare places count too). A statement '..UptoSaid' is the law's where the arguments, and the package variables that the reading takes, are together of bulk at most 1048576: NARROWER than '..Said'. Prove '..Said' where nothing that the law and all that it calls make is longer than what came in: it says more and counts as full. Else prove '..UptoSaid'. A law counts once. -/
mutual
def uptoBulk {H : Type} : DataW H → Nat
  | .lit (.string bytes) => bytes.length + 1
  | .lit _ => 1
  | .nil => 1
  | .ptr d => uptoBulk d + 1
  | .slice elems spare => uptoBulkAll elems + uptoBulkAll spare + 1
  | .agg parts => uptoBulkAll parts + 1
  | .iface _ d => uptoBulk d + 1
  | .map entries => uptoBulkEntries entries + 1
  | .held _ => 1
def uptoBulkAll {H : Type} : List (DataW H) → Nat
  | [] => 0
  | d :: r => uptoBulk d + uptoBulkAll r
def uptoBulkEntries {H : Type} : List (Lit × DataW H) → Nat
  | [] => 0
  | x :: r => uptoBulkEntry x + uptoBulkEntries r
def uptoBulkEntry {H : Type} : Lit × DataW H → Nat
  | (.string bytes, d) => bytes.length + uptoBulk d + 1
  | (_, d) => uptoBulk d + 1
 end
def uptoSmall : (H : Type) → List (DataW H) → Bool := fun _ ds => decide (uptoBulkAll ds ≤ 1048576)
def OpenSpec.upto (s : _root_.Go.ChangeSpec) : _root_.Go.OpenSpec := { _root_.Go.OpenSpec.ofChange s with cond := some uptoSmall }

/-- 'gaugehousekeep.RollBounds', WHERE WHAT IT READS IS OF BULK AT MOST 1048576: true; the input reads as it did. -/
def rollBoundsUptoRow : OpenClaim := { program := "ytkcfhfplppdnnaa", sum := "5193517a21c89ef3c8cb2e3283e12db6ea5b185cce3fba43d040a90dde98d934", func := "gaugehouse/gaugehousekeep.RollBounds", spec := "rollBounds", apart := false, narrowed := true }
def RollBoundsUptoSaid : Prop := rollBoundsUptoRow.holds Try.pinned (OpenSpec.upto rollBoundsSpec)

/-- 'gaugehousekeep.LogFull', WHERE WHAT IT READS IS OF BULK AT MOST 1048576: true; the input reads as it did. -/
def logFullUptoRow : OpenClaim := { program := "ytkcfhfplppdnnaa", sum := "5193517a21c89ef3c8cb2e3283e12db6ea5b185cce3fba43d040a90dde98d934", func := "gaugehouse/gaugehousekeep.LogFull", spec := "logFull", apart := false, narrowed := true }
def LogFullUptoSaid : Prop := logFullUptoRow.holds Try.pinned (OpenSpec.upto logFullSpec)

/-- 'gaugehousekeep.ChunkUpper', WHERE WHAT IT READS IS OF BULK AT MOST 1048576: true; the input reads as it did. -/
def chunkUpperUptoRow : OpenClaim := { program := "ytkcfhfplppdnnaa", sum := "5193517a21c89ef3c8cb2e3283e12db6ea5b185cce3fba43d040a90dde98d934", func := "gaugehouse/gaugehousekeep.ChunkUpper", spec := "chunkUpper", unfollowed := true, recurses := true, apart := false, narrowed := true }
def ChunkUpperUptoSaid : Prop := chunkUpperUptoRow.holds Try.pinned (OpenSpec.upto chunkUpperSpec)

/-- 'gaugehousekeep.RollCounts', WHERE WHAT IT READS IS OF BULK AT MOST 1048576: true; the input reads as it did. -/
def rollCountsUptoRow : OpenClaim := { program := "ytkcfhfplppdnnaa", sum := "5193517a21c89ef3c8cb2e3283e12db6ea5b185cce3fba43d040a90dde98d934", func := "gaugehouse/gaugehousekeep.RollCounts", spec := "rollCounts", apart := false, narrowed := true }
def RollCountsUptoSaid : Prop := rollCountsUptoRow.holds Try.pinned (OpenSpec.upto rollCountsSpec)

/-- 'gaugehousekeep.BitsParts', WHERE WHAT IT READS IS OF BULK AT MOST 1048576: true; the input reads as it did. -/
def bitsPartsUptoRow : OpenClaim := { program := "ytkcfhfplppdnnaa", sum := "5193517a21c89ef3c8cb2e3283e12db6ea5b185cce3fba43d040a90dde98d934", func := "gaugehouse/gaugehousekeep.BitsParts", spec := "bitsParts", apart := false, narrowed := true }
def BitsPartsUptoSaid : Prop := bitsPartsUptoRow.holds Try.pinned (OpenSpec.upto bitsPartsSpec)

/-- 'gaugehousekeep.ChunkLattice', WHERE WHAT IT READS IS OF BULK AT MOST 1048576: true; the input reads as it did. -/
def chunkLatticeUptoRow : OpenClaim := { program := "ytkcfhfplppdnnaa", sum := "5193517a21c89ef3c8cb2e3283e12db6ea5b185cce3fba43d040a90dde98d934", func := "gaugehouse/gaugehousekeep.ChunkLattice", spec := "chunkLattice", unfollowed := true, recurses := true, apart := false, narrowed := true }
def ChunkLatticeUptoSaid : Prop := chunkLatticeUptoRow.holds Try.pinned (OpenSpec.upto chunkLatticeSpec)

/-- 'gaugehousekeep.RollAgain', WHERE WHAT IT READS IS OF BULK AT MOST 1048576: true; the input reads as it did. -/
def rollAgainUptoRow : OpenClaim := { program := "ytkcfhfplppdnnaa", sum := "5193517a21c89ef3c8cb2e3283e12db6ea5b185cce3fba43d040a90dde98d934", func := "gaugehouse/gaugehousekeep.RollAgain", spec := "rollAgain", unfollowed := true, recurses := true, apart := false, narrowed := true }
def RollAgainUptoSaid : Prop := rollAgainUptoRow.holds Try.pinned (OpenSpec.upto rollAgainSpec)

/-- 'gaugehousekeep.LogOne', WHERE WHAT IT READS IS OF BULK AT MOST 1048576: true; the input reads as it did. -/
def logOneUptoRow : OpenClaim := { program := "ytkcfhfplppdnnaa", sum := "5193517a21c89ef3c8cb2e3283e12db6ea5b185cce3fba43d040a90dde98d934", func := "gaugehouse/gaugehousekeep.LogOne", spec := "logOne", apart := false, narrowed := true }
def LogOneUptoSaid : Prop := logOneUptoRow.holds Try.pinned (OpenSpec.upto logOneSpec)

/-- 'gaugehousekeep.LogBack', WHERE WHAT IT READS IS OF BULK AT MOST 1048576: true; the input reads as it did. -/
def logBackUptoRow : OpenClaim := { program := "ytkcfhfplppdnnaa", sum := "5193517a21c89ef3c8cb2e3283e12db6ea5b185cce3fba43d040a90dde98d934", func := "gaugehouse/gaugehousekeep.LogBack", spec := "logBack", unfollowed := true, recurses := true, apart := false, narrowed := true }
def LogBackUptoSaid : Prop := logBackUptoRow.holds Try.pinned (OpenSpec.upto logBackSpec)

/-- 'gaugehousekeep.RollJoin', WHERE WHAT IT READS IS OF BULK AT MOST 1048576: true; the input reads as it did. -/
def rollJoinUptoRow : OpenClaim := { program := "ytkcfhfplppdnnaa", sum := "5193517a21c89ef3c8cb2e3283e12db6ea5b185cce3fba43d040a90dde98d934", func := "gaugehouse/gaugehousekeep.RollJoin", spec := "rollJoin", unfollowed := true, recurses := true, apart := false, narrowed := true }
def RollJoinUptoSaid : Prop := rollJoinUptoRow.holds Try.pinned (OpenSpec.upto rollJoinSpec)

/-- 'gaugehousekeep.LogSync', WHERE WHAT IT READS IS OF BULK AT MOST 1048576: true; the input reads as it did. -/
def logSyncUptoRow : OpenClaim := { program := "ytkcfhfplppdnnaa", sum := "5193517a21c89ef3c8cb2e3283e12db6ea5b185cce3fba43d040a90dde98d934", func := "gaugehouse/gaugehousekeep.LogSync", spec := "logSync", apart := false, narrowed := true }
def LogSyncUptoSaid : Prop := logSyncUptoRow.holds Try.pinned (OpenSpec.upto logSyncSpec)

/-- 'gaugehousekeep.LogCrash', WHERE WHAT IT READS IS OF BULK AT MOST 1048576: true; the input reads as it did. -/
def logCrashUptoRow : OpenClaim := { program := "ytkcfhfplppdnnaa", sum := "5193517a21c89ef3c8cb2e3283e12db6ea5b185cce3fba43d040a90dde98d934", func := "gaugehouse/gaugehousekeep.LogCrash", spec := "logCrash", unfollowed := true, recurses := true, apart := false, narrowed := true }
def LogCrashUptoSaid : Prop := logCrashUptoRow.holds Try.pinned (OpenSpec.upto logCrashSpec)

end Rows
end Go.Proofs.Ytkcfhfplppdnnaa
