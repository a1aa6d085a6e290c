/-
  No cell of these rows narrows 'for every input' (looked for: loops, veiled, ifaces, maps, wideKeys, modest, calm, conditions, laid).
  DERIVED. THE GIVEN ROWS OF THIS SEAT. 6 by the template 'for every input the law returns true; each argument reads behind the call as it read before'; 0 by the template 'total and deterministic' (their statements: YtokilodekbjpnaaTotals.lean).
  GIVEN WITH THE SEED: the statements are not yours to turn. If you find one false, say at which input.
  Laid BY PROGRAM, IN A SANDBOX (cutbox-rows.mjs): the forced cells as the released guide's own fill.sh prints them over the translation c0b8df60ac1bf2aa… (all of the seat's roots in one cut). By AI agents, Wed Nov 11 2026. No macro, syntax, notation, axiom, sorry.
-/
import Derived.Test.YtokilodekbjpnaaChecked
import GoSem.Claim
import GoSem.ClaimJoined
import GoSem.ClaimMapViews
import Derived.JoinedTies
import Derived.KernelRfl
namespace Go.Proofs.Ytokilodekbjpnaa
/- THE CELL 'sum', in the pinned program and in every row, IS THE sha256 OF THE DUMP (.gsa) THAT YtokilodekbjpnaaProg.lean LOADS. Nothing in Lean hashes anything: it is a label: what it is worth is what the hold of that sum in a sandbox is worth. -/
noncomputable def Try.pinned : Pinned := { name := "ytokilodekbjpnaa", sum := "c0b8df60ac1bf2aaa2b57610a0fcc4bf5a0985a8e101fc6097cd4b9b3a109ee3", checked := Try.checked }
namespace Rows
def none {H : Type} : Left H := { results := [], args := [] }

/-- 'gaugehousekeep.GossipGrows': WHATEVER THE INPUT: true; the input reads as it did. -/
def gossipGrowsSpec : ChangeSpec := { name := "gossipGrows", fn := fun _ => fun
  | [d1, d2] => { results := [.lit (.bool true)], args := [d1, d2] }
  | _ => none }
def gossipGrowsRow : OpenClaim := { program := "ytokilodekbjpnaa", sum := "c0b8df60ac1bf2aaa2b57610a0fcc4bf5a0985a8e101fc6097cd4b9b3a109ee3", func := "gaugehouse/gaugehousekeep.GossipGrows", spec := "gossipGrows", unfollowed := true, recurses := true, apart := false }
def GossipGrowsSaid : Prop := gossipGrowsRow.holds Try.pinned (OpenSpec.ofChange gossipGrowsSpec)

/-- ITS FALSE NEIGHBOUR: 'it returns false'. Refute it at one input. -/
def gossipGrowsWrong : ChangeSpec := { name := "gossipGrows", fn := fun _ => fun
  | [d1, d2] => { results := [.lit (.bool false)], args := [d1, d2] }
  | _ => none }
def GossipGrowsWrongFalsely : Prop := gossipGrowsRow.holds Try.pinned (OpenSpec.ofChange gossipGrowsWrong)

/-- 'gaugehousekeep.GossipAll': WHATEVER THE INPUT: true; the input reads as it did. -/
def gossipAllSpec : ChangeSpec := { name := "gossipAll", fn := fun _ => fun
  | [d] => { results := [.lit (.bool true)], args := [d] }
  | _ => none }
def gossipAllRow : OpenClaim := { program := "ytokilodekbjpnaa", sum := "c0b8df60ac1bf2aaa2b57610a0fcc4bf5a0985a8e101fc6097cd4b9b3a109ee3", func := "gaugehouse/gaugehousekeep.GossipAll", spec := "gossipAll", unfollowed := true, recurses := true, apart := false }
def GossipAllSaid : Prop := gossipAllRow.holds Try.pinned (OpenSpec.ofChange gossipAllSpec)

/-- ITS FALSE NEIGHBOUR: 'it returns false'. Refute it at one input. -/
def gossipAllWrong : ChangeSpec := { name := "gossipAll", fn := fun _ => fun
  | [d] => { results := [.lit (.bool false)], args := [d] }
  | _ => none }
def GossipAllWrongFalsely : Prop := gossipAllRow.holds Try.pinned (OpenSpec.ofChange gossipAllWrong)

/-- 'gaugehousekeep.HandFences': WHATEVER THE INPUT: true; the input reads as it did. -/
def handFencesSpec : ChangeSpec := { name := "handFences", fn := fun _ => fun
  | [d1, d2, d3, d4] => { results := [.lit (.bool true)], args := [d1, d2, d3, d4] }
  | _ => none }
def handFencesRow : OpenClaim := { program := "ytokilodekbjpnaa", sum := "c0b8df60ac1bf2aaa2b57610a0fcc4bf5a0985a8e101fc6097cd4b9b3a109ee3", func := "gaugehouse/gaugehousekeep.HandFences", spec := "handFences", inPlace := ["slices.overlaps[int64]"], apart := false }
def HandFencesSaid : Prop := handFencesRow.holds Try.pinned (OpenSpec.ofChange handFencesSpec)

/-- ITS FALSE NEIGHBOUR: 'it returns false'. Refute it at one input. -/
def handFencesWrong : ChangeSpec := { name := "handFences", fn := fun _ => fun
  | [d1, d2, d3, d4] => { results := [.lit (.bool false)], args := [d1, d2, d3, d4] }
  | _ => none }
def HandFencesWrongFalsely : Prop := handFencesRow.holds Try.pinned (OpenSpec.ofChange handFencesWrong)

/-- 'gaugehousekeep.HandAbort': WHATEVER THE INPUT: true; the input reads as it did. -/
def handAbortSpec : ChangeSpec := { name := "handAbort", fn := fun _ => fun
  | [d1, d2, d3, d4, d5] => { results := [.lit (.bool true)], args := [d1, d2, d3, d4, d5] }
  | _ => none }
def handAbortRow : OpenClaim := { program := "ytokilodekbjpnaa", sum := "c0b8df60ac1bf2aaa2b57610a0fcc4bf5a0985a8e101fc6097cd4b9b3a109ee3", func := "gaugehouse/gaugehousekeep.HandAbort", spec := "handAbort", inPlace := ["slices.overlaps[int64]"], unfollowed := true, recurses := true, apart := false }
def HandAbortSaid : Prop := handAbortRow.holds Try.pinned (OpenSpec.ofChange handAbortSpec)

/-- ITS FALSE NEIGHBOUR: 'it returns false'. Refute it at one input. -/
def handAbortWrong : ChangeSpec := { name := "handAbort", fn := fun _ => fun
  | [d1, d2, d3, d4, d5] => { results := [.lit (.bool false)], args := [d1, d2, d3, d4, d5] }
  | _ => none }
def HandAbortWrongFalsely : Prop := handAbortRow.holds Try.pinned (OpenSpec.ofChange handAbortWrong)

/-- 'gaugehousekeep.HeavyBound': WHATEVER THE INPUT: true; the input reads as it did. -/
def heavyBoundSpec : ChangeSpec := { name := "heavyBound", fn := fun _ => fun
  | [d1, d2, d3] => { results := [.lit (.bool true)], args := [d1, d2, d3] }
  | _ => none }
def heavyBoundRow : OpenClaim := { program := "ytokilodekbjpnaa", sum := "c0b8df60ac1bf2aaa2b57610a0fcc4bf5a0985a8e101fc6097cd4b9b3a109ee3", func := "gaugehouse/gaugehousekeep.HeavyBound", spec := "heavyBound", inPlace := ["slices.overlaps[gaugehouse/api.Count]"], unfollowed := true, recurses := true, apart := false }
def HeavyBoundSaid : Prop := heavyBoundRow.holds Try.pinned (OpenSpec.ofChange heavyBoundSpec)

/-- ITS FALSE NEIGHBOUR: 'it returns false'. Refute it at one input. -/
def heavyBoundWrong : ChangeSpec := { name := "heavyBound", fn := fun _ => fun
  | [d1, d2, d3] => { results := [.lit (.bool false)], args := [d1, d2, d3] }
  | _ => none }
def HeavyBoundWrongFalsely : Prop := heavyBoundRow.holds Try.pinned (OpenSpec.ofChange heavyBoundWrong)

/-- 'gaugehousekeep.HeavyOften': WHATEVER THE INPUT: true; the input reads as it did. -/
def heavyOftenSpec : ChangeSpec := { name := "heavyOften", fn := fun _ => fun
  | [d1, d2, d3] => { results := [.lit (.bool true)], args := [d1, d2, d3] }
  | _ => none }
def heavyOftenRow : OpenClaim := { program := "ytokilodekbjpnaa", sum := "c0b8df60ac1bf2aaa2b57610a0fcc4bf5a0985a8e101fc6097cd4b9b3a109ee3", func := "gaugehouse/gaugehousekeep.HeavyOften", spec := "heavyOften", inPlace := ["slices.overlaps[gaugehouse/api.Count]"], unfollowed := true, recurses := true, apart := false }
def HeavyOftenSaid : Prop := heavyOftenRow.holds Try.pinned (OpenSpec.ofChange heavyOftenSpec)

/-- ITS FALSE NEIGHBOUR: 'it returns false'. Refute it at one input. -/
def heavyOftenWrong : ChangeSpec := { name := "heavyOften", fn := fun _ => fun
  | [d1, d2, d3] => { results := [.lit (.bool false)], args := [d1, d2, d3] }
  | _ => none }
def HeavyOftenWrongFalsely : Prop := heavyOftenRow.holds Try.pinned (OpenSpec.ofChange heavyOftenWrong)

/- THE SECOND FORM. 'bulk': how many values and letters a reading holds, each counted each time it is reached (what is shared counts as often as it is met; a slice's spare places count too). A statement '..UptoSaid' is the law's where the arguments, and the package variables that the reading takes, are together of bulk at most 1048576: NARROWER than '..Said'. Prove '..Said' where nothing that the law and all that it calls make is longer than what came in: it says more and counts as full. Else prove '..UptoSaid'. A law counts once. -/
mutual
def uptoBulk {H : Type} : DataW H → Nat
  | .lit (.string bytes) => bytes.length + 1
  | .lit _ => 1
  | .nil => 1
  | .ptr d => uptoBulk d + 1
  | .slice elems spare => uptoBulkAll elems + uptoBulkAll spare + 1
  | .agg parts => uptoBulkAll parts + 1
  | .iface _ d => uptoBulk d + 1
  | .map entries => uptoBulkEntries entries + 1
  | .held _ => 1
def uptoBulkAll {H : Type} : List (DataW H) → Nat
  | [] => 0
  | d :: r => uptoBulk d + uptoBulkAll r
def uptoBulkEntries {H : Type} : List (Lit × DataW H) → Nat
  | [] => 0
  | x :: r => uptoBulkEntry x + uptoBulkEntries r
def uptoBulkEntry {H : Type} : Lit × DataW H → Nat
  | (.string bytes, d) => bytes.length + uptoBulk d + 1
  | (_, d) => uptoBulk d + 1
 end
def uptoSmall : (H : Type) → List (DataW H) → Bool := fun _ ds => decide (uptoBulkAll ds ≤ 1048576)
def OpenSpec.upto (s : _root_.Go.ChangeSpec) : _root_.Go.OpenSpec := { _root_.Go.OpenSpec.ofChange s with cond := some uptoSmall }

/-- 'gaugehousekeep.GossipGrows', WHERE WHAT IT READS IS OF BULK AT MOST 1048576: true; the input reads as it did. -/
def gossipGrowsUptoRow : OpenClaim := { program := "ytokilodekbjpnaa", sum := "c0b8df60ac1bf2aaa2b57610a0fcc4bf5a0985a8e101fc6097cd4b9b3a109ee3", func := "gaugehouse/gaugehousekeep.GossipGrows", spec := "gossipGrows", unfollowed := true, recurses := true, apart := false, narrowed := true }
def GossipGrowsUptoSaid : Prop := gossipGrowsUptoRow.holds Try.pinned (OpenSpec.upto gossipGrowsSpec)

/-- 'gaugehousekeep.GossipAll', WHERE WHAT IT READS IS OF BULK AT MOST 1048576: true; the input reads as it did. -/
def gossipAllUptoRow : OpenClaim := { program := "ytokilodekbjpnaa", sum := "c0b8df60ac1bf2aaa2b57610a0fcc4bf5a0985a8e101fc6097cd4b9b3a109ee3", func := "gaugehouse/gaugehousekeep.GossipAll", spec := "gossipAll", unfollowed := true, recurses := true, apart := false, narrowed := true }
def GossipAllUptoSaid : Prop := gossipAllUptoRow.holds Try.pinned (OpenSpec.upto gossipAllSpec)

/-- 'gaugehousekeep.HandFences', WHERE WHAT IT READS IS OF BULK AT MOST 1048576: true; the input reads as it did. -/
def handFencesUptoRow : OpenClaim := { program := "ytokilodekbjpnaa", sum := "c0b8df60ac1bf2aaa2b57610a0fcc4bf5a0985a8e101fc6097cd4b9b3a109ee3", func := "gaugehouse/gaugehousekeep.HandFences", spec := "handFences", inPlace := ["slices.overlaps[int64]"], apart := false, narrowed := true }
def HandFencesUptoSaid : Prop := handFencesUptoRow.holds Try.pinned (OpenSpec.upto handFencesSpec)

/-- 'gaugehousekeep.HandAbort', WHERE WHAT IT READS IS OF BULK AT MOST 1048576: true; the input reads as it did. -/
def handAbortUptoRow : OpenClaim := { program := "ytokilodekbjpnaa", sum := "c0b8df60ac1bf2aaa2b57610a0fcc4bf5a0985a8e101fc6097cd4b9b3a109ee3", func := "gaugehouse/gaugehousekeep.HandAbort", spec := "handAbort", inPlace := ["slices.overlaps[int64]"], unfollowed := true, recurses := true, apart := false, narrowed := true }
def HandAbortUptoSaid : Prop := handAbortUptoRow.holds Try.pinned (OpenSpec.upto handAbortSpec)

/-- 'gaugehousekeep.HeavyBound', WHERE WHAT IT READS IS OF BULK AT MOST 1048576: true; the input reads as it did. -/
def heavyBoundUptoRow : OpenClaim := { program := "ytokilodekbjpnaa", sum := "c0b8df60ac1bf2aaa2b57610a0fcc4bf5a0985a8e101fc6097cd4b9b3a109ee3", func := "gaugehouse/gaugehousekeep.HeavyBound", spec := "heavyBound", inPlace := ["slices.overlaps[gaugehouse/api.Count]"], unfollowed := true, recurses := true, apart := false, narrowed := true }
def HeavyBoundUptoSaid : Prop := heavyBoundUptoRow.holds Try.pinned (OpenSpec.upto heavyBoundSpec)

/-- 'gaugehousekeep.HeavyOften', WHERE WHAT IT READS IS OF BULK AT MOST 1048576: true; the input reads as it did. -/
def heavyOftenUptoRow : OpenClaim := { program := "ytokilodekbjpnaa", sum := "c0b8df60ac1bf2aaa2b57610a0fcc4bf5a0985a8e101fc6097cd4b9b3a109ee3", func := "gaugehouse/gaugehousekeep.HeavyOften", spec := "heavyOften", inPlace := ["slices.overlaps[gaugehouse/api.Count]"], unfollowed := true, recurses := true, apart := false, narrowed := true }
def HeavyOftenUptoSaid : Prop := heavyOftenUptoRow.holds Try.pinned (OpenSpec.upto heavyOftenSpec)

end Rows
end Go.Proofs.Ytokilodekbjpnaa
