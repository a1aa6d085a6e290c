/-
  No cell of these rows narrows 'for every input' (looked for: loops, veiled, ifaces, maps, wideKeys, modest, calm, conditions, laid).
  DERIVED. THE GIVEN ROWS OF THIS SEAT. 5 by the template 'for every input the law returns true; each argument reads behind the call as it read before'; 0 by the template 'total and deterministic' (their statements: YtmbpgenjjgepiaaTotals.lean).
  GIVEN WITH THE SEED: the statements are not yours to turn. If you find one false, say at which input.
  Laid BY PROGRAM, IN A SANDBOX (cutbox-rows.mjs): the forced cells as the released guide's own fill.sh prints them over the translation 1cb91d7594f3be4b… (all of the seat's roots in one cut). By AI agents, Wed Nov 11 2026. No macro, syntax, notation, axiom, sorry.
-/
import Derived.Test.YtmbpgenjjgepiaaChecked
import GoSem.Claim
import GoSem.ClaimJoined
import GoSem.ClaimMapViews
import Derived.JoinedTies
import Derived.KernelRfl
namespace Go.Proofs.Ytmbpgenjjgepiaa
/- THE CELL 'sum', in the pinned program and in every row, IS THE sha256 OF THE DUMP (.gsa) THAT YtmbpgenjjgepiaaProg.lean LOADS. Nothing in Lean hashes anything: it is a label: what it is worth is what the hold of that sum in a sandbox is worth. -/
noncomputable def Try.pinned : Pinned := { name := "ytmbpgenjjgepiaa", sum := "1cb91d7594f3be4b4b4d9675911ae2e1d8a6b0527346b632fa2e4f6bbac0bd1e", checked := Try.checked }
namespace Rows
def none {H : Type} : Left H := { results := [], args := [] }

/-- 'gaugehousekeep.RingMore': WHATEVER THE INPUT: true; the input reads as it did. -/
def ringMoreSpec : ChangeSpec := { name := "ringMore", fn := fun _ => fun
  | [d1, d2, d3, d4] => { results := [.lit (.bool true)], args := [d1, d2, d3, d4] }
  | _ => none }
def ringMoreRow : OpenClaim := { program := "ytmbpgenjjgepiaa", sum := "1cb91d7594f3be4b4b4d9675911ae2e1d8a6b0527346b632fa2e4f6bbac0bd1e", func := "gaugehouse/gaugehousekeep.RingMore", spec := "ringMore", unfollowed := true, recurses := true, apart := false }
def RingMoreSaid : Prop := ringMoreRow.holds Try.pinned (OpenSpec.ofChange ringMoreSpec)

/-- ITS FALSE NEIGHBOUR: 'it returns false'. Refute it at one input. -/
def ringMoreWrong : ChangeSpec := { name := "ringMore", fn := fun _ => fun
  | [d1, d2, d3, d4] => { results := [.lit (.bool false)], args := [d1, d2, d3, d4] }
  | _ => none }
def RingMoreWrongFalsely : Prop := ringMoreRow.holds Try.pinned (OpenSpec.ofChange ringMoreWrong)

/-- 'gaugehousekeep.RingShares': WHATEVER THE INPUT: true; the input reads as it did. -/
def ringSharesSpec : ChangeSpec := { name := "ringShares", fn := fun _ => fun
  | [d] => { results := [.lit (.bool true)], args := [d] }
  | _ => none }
def ringSharesRow : OpenClaim := { program := "ytmbpgenjjgepiaa", sum := "1cb91d7594f3be4b4b4d9675911ae2e1d8a6b0527346b632fa2e4f6bbac0bd1e", func := "gaugehouse/gaugehousekeep.RingShares", spec := "ringShares", unfollowed := true, recurses := true, apart := false }
def RingSharesSaid : Prop := ringSharesRow.holds Try.pinned (OpenSpec.ofChange ringSharesSpec)

/-- ITS FALSE NEIGHBOUR: 'it returns false'. Refute it at one input. -/
def ringSharesWrong : ChangeSpec := { name := "ringShares", fn := fun _ => fun
  | [d] => { results := [.lit (.bool false)], args := [d] }
  | _ => none }
def RingSharesWrongFalsely : Prop := ringSharesRow.holds Try.pinned (OpenSpec.ofChange ringSharesWrong)

/-- 'gaugehousekeep.RingLeave': WHATEVER THE INPUT: true; the input reads as it did. -/
def ringLeaveSpec : ChangeSpec := { name := "ringLeave", fn := fun _ => fun
  | [d1, d2, d3] => { results := [.lit (.bool true)], args := [d1, d2, d3] }
  | _ => none }
def ringLeaveRow : OpenClaim := { program := "ytmbpgenjjgepiaa", sum := "1cb91d7594f3be4b4b4d9675911ae2e1d8a6b0527346b632fa2e4f6bbac0bd1e", func := "gaugehouse/gaugehousekeep.RingLeave", spec := "ringLeave", unfollowed := true, recurses := true, apart := false }
def RingLeaveSaid : Prop := ringLeaveRow.holds Try.pinned (OpenSpec.ofChange ringLeaveSpec)

/-- ITS FALSE NEIGHBOUR: 'it returns false'. Refute it at one input. -/
def ringLeaveWrong : ChangeSpec := { name := "ringLeave", fn := fun _ => fun
  | [d1, d2, d3] => { results := [.lit (.bool false)], args := [d1, d2, d3] }
  | _ => none }
def RingLeaveWrongFalsely : Prop := ringLeaveRow.holds Try.pinned (OpenSpec.ofChange ringLeaveWrong)

/-- 'gaugehousekeep.RingJoin': WHATEVER THE INPUT: true; the input reads as it did. -/
def ringJoinSpec : ChangeSpec := { name := "ringJoin", fn := fun _ => fun
  | [d1, d2, d3, d4] => { results := [.lit (.bool true)], args := [d1, d2, d3, d4] }
  | _ => none }
def ringJoinRow : OpenClaim := { program := "ytmbpgenjjgepiaa", sum := "1cb91d7594f3be4b4b4d9675911ae2e1d8a6b0527346b632fa2e4f6bbac0bd1e", func := "gaugehouse/gaugehousekeep.RingJoin", spec := "ringJoin", inPlace := ["slices.overlaps[gaugehouse/api.Node]"], unfollowed := true, recurses := true, apart := false }
def RingJoinSaid : Prop := ringJoinRow.holds Try.pinned (OpenSpec.ofChange ringJoinSpec)

/-- ITS FALSE NEIGHBOUR: 'it returns false'. Refute it at one input. -/
def ringJoinWrong : ChangeSpec := { name := "ringJoin", fn := fun _ => fun
  | [d1, d2, d3, d4] => { results := [.lit (.bool false)], args := [d1, d2, d3, d4] }
  | _ => none }
def RingJoinWrongFalsely : Prop := ringJoinRow.holds Try.pinned (OpenSpec.ofChange ringJoinWrong)

/-- 'gaugehousekeep.RingBack': WHATEVER THE INPUT: true; the input reads as it did. -/
def ringBackSpec : ChangeSpec := { name := "ringBack", fn := fun _ => fun
  | [d1, d2] => { results := [.lit (.bool true)], args := [d1, d2] }
  | _ => none }
def ringBackRow : OpenClaim := { program := "ytmbpgenjjgepiaa", sum := "1cb91d7594f3be4b4b4d9675911ae2e1d8a6b0527346b632fa2e4f6bbac0bd1e", func := "gaugehouse/gaugehousekeep.RingBack", spec := "ringBack", inPlace := ["slices.overlaps[gaugehouse/api.Node]"], unfollowed := true, recurses := true, apart := false }
def RingBackSaid : Prop := ringBackRow.holds Try.pinned (OpenSpec.ofChange ringBackSpec)

/-- ITS FALSE NEIGHBOUR: 'it returns false'. Refute it at one input. -/
def ringBackWrong : ChangeSpec := { name := "ringBack", fn := fun _ => fun
  | [d1, d2] => { results := [.lit (.bool false)], args := [d1, d2] }
  | _ => none }
def RingBackWrongFalsely : Prop := ringBackRow.holds Try.pinned (OpenSpec.ofChange ringBackWrong)

/- THE SECOND FORM. 'bulk': how many values and letters a reading holds, each counted each time it is reached (what is shared counts as often as it is met; a slice's spare places count too). A statement '..UptoSaid' is the law's where the arguments, and the package variables that the reading takes, are together of bulk at most 1048576: NARROWER than '..Said'. Prove '..Said' where nothing that the law and all that it calls make is longer than what came in: it says more and counts as full. Else prove '..UptoSaid'. A law counts once. -/
mutual
def uptoBulk {H : Type} : DataW H → Nat
  | .lit (.string bytes) => bytes.length + 1
  | .lit _ => 1
  | .nil => 1
  | .ptr d => uptoBulk d + 1
  | .slice elems spare => uptoBulkAll elems + uptoBulkAll spare + 1
  | .agg parts => uptoBulkAll parts + 1
  | .iface _ d => uptoBulk d + 1
  | .map entries => uptoBulkEntries entries + 1
  | .held _ => 1
def uptoBulkAll {H : Type} : List (DataW H) → Nat
  | [] => 0
  | d :: r => uptoBulk d + uptoBulkAll r
def uptoBulkEntries {H : Type} : List (Lit × DataW H) → Nat
  | [] => 0
  | x :: r => uptoBulkEntry x + uptoBulkEntries r
def uptoBulkEntry {H : Type} : Lit × DataW H → Nat
  | (.string bytes, d) => bytes.length + uptoBulk d + 1
  | (_, d) => uptoBulk d + 1
 end
def uptoSmall : (H : Type) → List (DataW H) → Bool := fun _ ds => decide (uptoBulkAll ds ≤ 1048576)
def OpenSpec.upto (s : _root_.Go.ChangeSpec) : _root_.Go.OpenSpec := { _root_.Go.OpenSpec.ofChange s with cond := some uptoSmall }

/-- 'gaugehousekeep.RingMore', WHERE WHAT IT READS IS OF BULK AT MOST 1048576: true; the input reads as it did. -/
def ringMoreUptoRow : OpenClaim := { program := "ytmbpgenjjgepiaa", sum := "1cb91d7594f3be4b4b4d9675911ae2e1d8a6b0527346b632fa2e4f6bbac0bd1e", func := "gaugehouse/gaugehousekeep.RingMore", spec := "ringMore", unfollowed := true, recurses := true, apart := false, narrowed := true }
def RingMoreUptoSaid : Prop := ringMoreUptoRow.holds Try.pinned (OpenSpec.upto ringMoreSpec)

/-- 'gaugehousekeep.RingShares', WHERE WHAT IT READS IS OF BULK AT MOST 1048576: true; the input reads as it did. -/
def ringSharesUptoRow : OpenClaim := { program := "ytmbpgenjjgepiaa", sum := "1cb91d7594f3be4b4b4d9675911ae2e1d8a6b0527346b632fa2e4f6bbac0bd1e", func := "gaugehouse/gaugehousekeep.RingShares", spec := "ringShares", unfollowed := true, recurses := true, apart := false, narrowed := true }
def RingSharesUptoSaid : Prop := ringSharesUptoRow.holds Try.pinned (OpenSpec.upto ringSharesSpec)

/-- 'gaugehousekeep.RingLeave', WHERE WHAT IT READS IS OF BULK AT MOST 1048576: true; the input reads as it did. -/
def ringLeaveUptoRow : OpenClaim := { program := "ytmbpgenjjgepiaa", sum := "1cb91d7594f3be4b4b4d9675911ae2e1d8a6b0527346b632fa2e4f6bbac0bd1e", func := "gaugehouse/gaugehousekeep.RingLeave", spec := "ringLeave", unfollowed := true, recurses := true, apart := false, narrowed := true }
def RingLeaveUptoSaid : Prop := ringLeaveUptoRow.holds Try.pinned (OpenSpec.upto ringLeaveSpec)

/-- 'gaugehousekeep.RingJoin', WHERE WHAT IT READS IS OF BULK AT MOST 1048576: true; the input reads as it did. -/
def ringJoinUptoRow : OpenClaim := { program := "ytmbpgenjjgepiaa", sum := "1cb91d7594f3be4b4b4d9675911ae2e1d8a6b0527346b632fa2e4f6bbac0bd1e", func := "gaugehouse/gaugehousekeep.RingJoin", spec := "ringJoin", inPlace := ["slices.overlaps[gaugehouse/api.Node]"], unfollowed := true, recurses := true, apart := false, narrowed := true }
def RingJoinUptoSaid : Prop := ringJoinUptoRow.holds Try.pinned (OpenSpec.upto ringJoinSpec)

/-- 'gaugehousekeep.RingBack', WHERE WHAT IT READS IS OF BULK AT MOST 1048576: true; the input reads as it did. -/
def ringBackUptoRow : OpenClaim := { program := "ytmbpgenjjgepiaa", sum := "1cb91d7594f3be4b4b4d9675911ae2e1d8a6b0527346b632fa2e4f6bbac0bd1e", func := "gaugehouse/gaugehousekeep.RingBack", spec := "ringBack", inPlace := ["slices.overlaps[gaugehouse/api.Node]"], unfollowed := true, recurses := true, apart := false, narrowed := true }
def RingBackUptoSaid : Prop := ringBackUptoRow.holds Try.pinned (OpenSpec.upto ringBackSpec)

end Rows
end Go.Proofs.Ytmbpgenjjgepiaa
