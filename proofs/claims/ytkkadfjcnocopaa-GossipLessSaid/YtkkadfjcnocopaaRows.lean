/-
  No cell of these rows narrows 'for every input' (looked for: loops, veiled, ifaces, maps, wideKeys, modest, calm, conditions, laid).
  DERIVED. THE GIVEN ROWS OF THIS SEAT. 16 by the template 'for every input the law returns true; each argument reads behind the call as it read before'; 0 by the template 'total and deterministic' (their statements: YtkkadfjcnocopaaTotals.lean).
  GIVEN WITH THE SEED: the statements are not yours to turn. If you find one false, say at which input.
  Laid BY PROGRAM, IN A SANDBOX (cutbox-rows.mjs): the forced cells as the released guide's own fill.sh prints them over the translation 0ad0859db8763194… (all of the seat's roots in one cut). By AI agents, Wed Nov 11 2026. No macro, syntax, notation, axiom, sorry.
-/
import Derived.Test.YtkkadfjcnocopaaChecked
import GoSem.Claim
import GoSem.ClaimJoined
import GoSem.ClaimMapViews
import Derived.JoinedTies
import Derived.KernelRfl
namespace Go.Proofs.Ytkkadfjcnocopaa
/- THE CELL 'sum', in the pinned program and in every row, IS THE sha256 OF THE DUMP (.gsa) THAT YtkkadfjcnocopaaProg.lean LOADS. Nothing in Lean hashes anything: it is a label: what it is worth is what the hold of that sum in a sandbox is worth. -/
noncomputable def Try.pinned : Pinned := { name := "ytkkadfjcnocopaa", sum := "0ad0859db8763194e9cc56a523da7f6741e06e2ce554dafe26d73b45896084d3", checked := Try.checked }
namespace Rows
def none {H : Type} : Left H := { results := [], args := [] }

/-- 'gaugehousekeep.RankWeight': WHATEVER THE INPUT: true; the input reads as it did. -/
def rankWeightSpec : ChangeSpec := { name := "rankWeight", fn := fun _ => fun
  | [d1, d2, d3] => { results := [.lit (.bool true)], args := [d1, d2, d3] }
  | _ => none }
def rankWeightRow : OpenClaim := { program := "ytkkadfjcnocopaa", sum := "0ad0859db8763194e9cc56a523da7f6741e06e2ce554dafe26d73b45896084d3", func := "gaugehouse/gaugehousekeep.RankWeight", spec := "rankWeight", unfollowed := true, recurses := true, apart := false }
def RankWeightSaid : Prop := rankWeightRow.holds Try.pinned (OpenSpec.ofChange rankWeightSpec)

/-- ITS FALSE NEIGHBOUR: 'it returns false'. Refute it at one input. -/
def rankWeightWrong : ChangeSpec := { name := "rankWeight", fn := fun _ => fun
  | [d1, d2, d3] => { results := [.lit (.bool false)], args := [d1, d2, d3] }
  | _ => none }
def RankWeightWrongFalsely : Prop := rankWeightRow.holds Try.pinned (OpenSpec.ofChange rankWeightWrong)

/-- 'gaugehousekeep.SketchOver': WHATEVER THE INPUT: true; the input reads as it did. -/
def sketchOverSpec : ChangeSpec := { name := "sketchOver", fn := fun _ => fun
  | [d1, d2, d3, d4] => { results := [.lit (.bool true)], args := [d1, d2, d3, d4] }
  | _ => none }
def sketchOverRow : OpenClaim := { program := "ytkkadfjcnocopaa", sum := "0ad0859db8763194e9cc56a523da7f6741e06e2ce554dafe26d73b45896084d3", func := "gaugehouse/gaugehousekeep.SketchOver", spec := "sketchOver", unfollowed := true, recurses := true, apart := false }
def SketchOverSaid : Prop := sketchOverRow.holds Try.pinned (OpenSpec.ofChange sketchOverSpec)

/-- ITS FALSE NEIGHBOUR: 'it returns false'. Refute it at one input. -/
def sketchOverWrong : ChangeSpec := { name := "sketchOver", fn := fun _ => fun
  | [d1, d2, d3, d4] => { results := [.lit (.bool false)], args := [d1, d2, d3, d4] }
  | _ => none }
def SketchOverWrongFalsely : Prop := sketchOverRow.holds Try.pinned (OpenSpec.ofChange sketchOverWrong)

/-- 'gaugehousekeep.SketchOften': WHATEVER THE INPUT: true; the input reads as it did. -/
def sketchOftenSpec : ChangeSpec := { name := "sketchOften", fn := fun _ => fun
  | [d1, d2, d3] => { results := [.lit (.bool true)], args := [d1, d2, d3] }
  | _ => none }
def sketchOftenRow : OpenClaim := { program := "ytkkadfjcnocopaa", sum := "0ad0859db8763194e9cc56a523da7f6741e06e2ce554dafe26d73b45896084d3", func := "gaugehouse/gaugehousekeep.SketchOften", spec := "sketchOften", unfollowed := true, recurses := true, apart := false }
def SketchOftenSaid : Prop := sketchOftenRow.holds Try.pinned (OpenSpec.ofChange sketchOftenSpec)

/-- ITS FALSE NEIGHBOUR: 'it returns false'. Refute it at one input. -/
def sketchOftenWrong : ChangeSpec := { name := "sketchOften", fn := fun _ => fun
  | [d1, d2, d3] => { results := [.lit (.bool false)], args := [d1, d2, d3] }
  | _ => none }
def SketchOftenWrongFalsely : Prop := sketchOftenRow.holds Try.pinned (OpenSpec.ofChange sketchOftenWrong)

/-- 'gaugehousekeep.SketchMore': WHATEVER THE INPUT: true; the input reads as it did. -/
def sketchMoreSpec : ChangeSpec := { name := "sketchMore", fn := fun _ => fun
  | [d1, d2, d3, d4] => { results := [.lit (.bool true)], args := [d1, d2, d3, d4] }
  | _ => none }
def sketchMoreRow : OpenClaim := { program := "ytkkadfjcnocopaa", sum := "0ad0859db8763194e9cc56a523da7f6741e06e2ce554dafe26d73b45896084d3", func := "gaugehouse/gaugehousekeep.SketchMore", spec := "sketchMore", unfollowed := true, recurses := true, apart := false }
def SketchMoreSaid : Prop := sketchMoreRow.holds Try.pinned (OpenSpec.ofChange sketchMoreSpec)

/-- ITS FALSE NEIGHBOUR: 'it returns false'. Refute it at one input. -/
def sketchMoreWrong : ChangeSpec := { name := "sketchMore", fn := fun _ => fun
  | [d1, d2, d3, d4] => { results := [.lit (.bool false)], args := [d1, d2, d3, d4] }
  | _ => none }
def SketchMoreWrongFalsely : Prop := sketchMoreRow.holds Try.pinned (OpenSpec.ofChange sketchMoreWrong)

/-- 'gaugehousekeep.SketchLinear': WHATEVER THE INPUT: true; the input reads as it did. -/
def sketchLinearSpec : ChangeSpec := { name := "sketchLinear", fn := fun _ => fun
  | [d1, d2, d3, d4] => { results := [.lit (.bool true)], args := [d1, d2, d3, d4] }
  | _ => none }
def sketchLinearRow : OpenClaim := { program := "ytkkadfjcnocopaa", sum := "0ad0859db8763194e9cc56a523da7f6741e06e2ce554dafe26d73b45896084d3", func := "gaugehouse/gaugehousekeep.SketchLinear", spec := "sketchLinear", unfollowed := true, recurses := true, apart := false }
def SketchLinearSaid : Prop := sketchLinearRow.holds Try.pinned (OpenSpec.ofChange sketchLinearSpec)

/-- ITS FALSE NEIGHBOUR: 'it returns false'. Refute it at one input. -/
def sketchLinearWrong : ChangeSpec := { name := "sketchLinear", fn := fun _ => fun
  | [d1, d2, d3, d4] => { results := [.lit (.bool false)], args := [d1, d2, d3, d4] }
  | _ => none }
def SketchLinearWrongFalsely : Prop := sketchLinearRow.holds Try.pinned (OpenSpec.ofChange sketchLinearWrong)

/-- 'gaugehousekeep.ClaimNewer': WHATEVER THE INPUT: true; the input reads as it did. -/
def claimNewerSpec : ChangeSpec := { name := "claimNewer", fn := fun _ => fun
  | [d1, d2, d3] => { results := [.lit (.bool true)], args := [d1, d2, d3] }
  | _ => none }
def claimNewerRow : OpenClaim := { program := "ytkkadfjcnocopaa", sum := "0ad0859db8763194e9cc56a523da7f6741e06e2ce554dafe26d73b45896084d3", func := "gaugehouse/gaugehousekeep.ClaimNewer", spec := "claimNewer", unfollowed := true, recurses := true, apart := false }
def ClaimNewerSaid : Prop := claimNewerRow.holds Try.pinned (OpenSpec.ofChange claimNewerSpec)

/-- ITS FALSE NEIGHBOUR: 'it returns false'. Refute it at one input. -/
def claimNewerWrong : ChangeSpec := { name := "claimNewer", fn := fun _ => fun
  | [d1, d2, d3] => { results := [.lit (.bool false)], args := [d1, d2, d3] }
  | _ => none }
def ClaimNewerWrongFalsely : Prop := claimNewerRow.holds Try.pinned (OpenSpec.ofChange claimNewerWrong)

/-- 'gaugehousekeep.ClaimLattice': WHATEVER THE INPUT: true; the input reads as it did. -/
def claimLatticeSpec : ChangeSpec := { name := "claimLattice", fn := fun _ => fun
  | [d1, d2, d3] => { results := [.lit (.bool true)], args := [d1, d2, d3] }
  | _ => none }
def claimLatticeRow : OpenClaim := { program := "ytkkadfjcnocopaa", sum := "0ad0859db8763194e9cc56a523da7f6741e06e2ce554dafe26d73b45896084d3", func := "gaugehouse/gaugehousekeep.ClaimLattice", spec := "claimLattice", unfollowed := true, recurses := true, apart := false }
def ClaimLatticeSaid : Prop := claimLatticeRow.holds Try.pinned (OpenSpec.ofChange claimLatticeSpec)

/-- ITS FALSE NEIGHBOUR: 'it returns false'. Refute it at one input. -/
def claimLatticeWrong : ChangeSpec := { name := "claimLattice", fn := fun _ => fun
  | [d1, d2, d3] => { results := [.lit (.bool false)], args := [d1, d2, d3] }
  | _ => none }
def ClaimLatticeWrongFalsely : Prop := claimLatticeRow.holds Try.pinned (OpenSpec.ofChange claimLatticeWrong)

/-- 'gaugehousekeep.ClaimUpper': WHATEVER THE INPUT: true; the input reads as it did. -/
def claimUpperSpec : ChangeSpec := { name := "claimUpper", fn := fun _ => fun
  | [d1, d2] => { results := [.lit (.bool true)], args := [d1, d2] }
  | _ => none }
def claimUpperRow : OpenClaim := { program := "ytkkadfjcnocopaa", sum := "0ad0859db8763194e9cc56a523da7f6741e06e2ce554dafe26d73b45896084d3", func := "gaugehouse/gaugehousekeep.ClaimUpper", spec := "claimUpper", unfollowed := true, recurses := true, apart := false }
def ClaimUpperSaid : Prop := claimUpperRow.holds Try.pinned (OpenSpec.ofChange claimUpperSpec)

/-- ITS FALSE NEIGHBOUR: 'it returns false'. Refute it at one input. -/
def claimUpperWrong : ChangeSpec := { name := "claimUpper", fn := fun _ => fun
  | [d1, d2] => { results := [.lit (.bool false)], args := [d1, d2] }
  | _ => none }
def ClaimUpperWrongFalsely : Prop := claimUpperRow.holds Try.pinned (OpenSpec.ofChange claimUpperWrong)

/-- 'gaugehousekeep.GossipLess': WHATEVER THE INPUT: true; the input reads as it did. -/
def gossipLessSpec : ChangeSpec := { name := "gossipLess", fn := fun _ => fun
  | [d1, d2] => { results := [.lit (.bool true)], args := [d1, d2] }
  | _ => none }
def gossipLessRow : OpenClaim := { program := "ytkkadfjcnocopaa", sum := "0ad0859db8763194e9cc56a523da7f6741e06e2ce554dafe26d73b45896084d3", func := "gaugehouse/gaugehousekeep.GossipLess", spec := "gossipLess", unfollowed := true, recurses := true, apart := false }
def GossipLessSaid : Prop := gossipLessRow.holds Try.pinned (OpenSpec.ofChange gossipLessSpec)

/-- ITS FALSE NEIGHBOUR: 'it returns false'. Refute it at one input. -/
def gossipLessWrong : ChangeSpec := { name := "gossipLess", fn := fun _ => fun
  | [d1, d2] => { results := [.lit (.bool false)], args := [d1, d2] }
  | _ => none }
def GossipLessWrongFalsely : Prop := gossipLessRow.holds Try.pinned (OpenSpec.ofChange gossipLessWrong)

/-- 'gaugehousekeep.GossipBoth': WHATEVER THE INPUT: true; the input reads as it did. -/
def gossipBothSpec : ChangeSpec := { name := "gossipBoth", fn := fun _ => fun
  | [d1, d2] => { results := [.lit (.bool true)], args := [d1, d2] }
  | _ => none }
def gossipBothRow : OpenClaim := { program := "ytkkadfjcnocopaa", sum := "0ad0859db8763194e9cc56a523da7f6741e06e2ce554dafe26d73b45896084d3", func := "gaugehouse/gaugehousekeep.GossipBoth", spec := "gossipBoth", unfollowed := true, recurses := true, apart := false }
def GossipBothSaid : Prop := gossipBothRow.holds Try.pinned (OpenSpec.ofChange gossipBothSpec)

/-- ITS FALSE NEIGHBOUR: 'it returns false'. Refute it at one input. -/
def gossipBothWrong : ChangeSpec := { name := "gossipBoth", fn := fun _ => fun
  | [d1, d2] => { results := [.lit (.bool false)], args := [d1, d2] }
  | _ => none }
def GossipBothWrongFalsely : Prop := gossipBothRow.holds Try.pinned (OpenSpec.ofChange gossipBothWrong)

/-- 'gaugehousekeep.GossipGrows': WHATEVER THE INPUT: true; the input reads as it did. -/
def gossipGrowsSpec : ChangeSpec := { name := "gossipGrows", fn := fun _ => fun
  | [d1, d2] => { results := [.lit (.bool true)], args := [d1, d2] }
  | _ => none }
def gossipGrowsRow : OpenClaim := { program := "ytkkadfjcnocopaa", sum := "0ad0859db8763194e9cc56a523da7f6741e06e2ce554dafe26d73b45896084d3", func := "gaugehouse/gaugehousekeep.GossipGrows", spec := "gossipGrows", unfollowed := true, recurses := true, apart := false }
def GossipGrowsSaid : Prop := gossipGrowsRow.holds Try.pinned (OpenSpec.ofChange gossipGrowsSpec)

/-- ITS FALSE NEIGHBOUR: 'it returns false'. Refute it at one input. -/
def gossipGrowsWrong : ChangeSpec := { name := "gossipGrows", fn := fun _ => fun
  | [d1, d2] => { results := [.lit (.bool false)], args := [d1, d2] }
  | _ => none }
def GossipGrowsWrongFalsely : Prop := gossipGrowsRow.holds Try.pinned (OpenSpec.ofChange gossipGrowsWrong)

/-- 'gaugehousekeep.GossipAll': WHATEVER THE INPUT: true; the input reads as it did. -/
def gossipAllSpec : ChangeSpec := { name := "gossipAll", fn := fun _ => fun
  | [d] => { results := [.lit (.bool true)], args := [d] }
  | _ => none }
def gossipAllRow : OpenClaim := { program := "ytkkadfjcnocopaa", sum := "0ad0859db8763194e9cc56a523da7f6741e06e2ce554dafe26d73b45896084d3", func := "gaugehouse/gaugehousekeep.GossipAll", spec := "gossipAll", unfollowed := true, recurses := true, apart := false }
def GossipAllSaid : Prop := gossipAllRow.holds Try.pinned (OpenSpec.ofChange gossipAllSpec)

/-- ITS FALSE NEIGHBOUR: 'it returns false'. Refute it at one input. -/
def gossipAllWrong : ChangeSpec := { name := "gossipAll", fn := fun _ => fun
  | [d] => { results := [.lit (.bool false)], args := [d] }
  | _ => none }
def GossipAllWrongFalsely : Prop := gossipAllRow.holds Try.pinned (OpenSpec.ofChange gossipAllWrong)

/-- 'gaugehousekeep.HandFences': WHATEVER THE INPUT: true; the input reads as it did. -/
def handFencesSpec : ChangeSpec := { name := "handFences", fn := fun _ => fun
  | [d1, d2, d3, d4] => { results := [.lit (.bool true)], args := [d1, d2, d3, d4] }
  | _ => none }
def handFencesRow : OpenClaim := { program := "ytkkadfjcnocopaa", sum := "0ad0859db8763194e9cc56a523da7f6741e06e2ce554dafe26d73b45896084d3", func := "gaugehouse/gaugehousekeep.HandFences", spec := "handFences", inPlace := ["slices.overlaps[int64]"], apart := false }
def HandFencesSaid : Prop := handFencesRow.holds Try.pinned (OpenSpec.ofChange handFencesSpec)

/-- ITS FALSE NEIGHBOUR: 'it returns false'. Refute it at one input. -/
def handFencesWrong : ChangeSpec := { name := "handFences", fn := fun _ => fun
  | [d1, d2, d3, d4] => { results := [.lit (.bool false)], args := [d1, d2, d3, d4] }
  | _ => none }
def HandFencesWrongFalsely : Prop := handFencesRow.holds Try.pinned (OpenSpec.ofChange handFencesWrong)

/-- 'gaugehousekeep.HandAbort': WHATEVER THE INPUT: true; the input reads as it did. -/
def handAbortSpec : ChangeSpec := { name := "handAbort", fn := fun _ => fun
  | [d1, d2, d3, d4, d5] => { results := [.lit (.bool true)], args := [d1, d2, d3, d4, d5] }
  | _ => none }
def handAbortRow : OpenClaim := { program := "ytkkadfjcnocopaa", sum := "0ad0859db8763194e9cc56a523da7f6741e06e2ce554dafe26d73b45896084d3", func := "gaugehouse/gaugehousekeep.HandAbort", spec := "handAbort", inPlace := ["slices.overlaps[int64]"], unfollowed := true, recurses := true, apart := false }
def HandAbortSaid : Prop := handAbortRow.holds Try.pinned (OpenSpec.ofChange handAbortSpec)

/-- ITS FALSE NEIGHBOUR: 'it returns false'. Refute it at one input. -/
def handAbortWrong : ChangeSpec := { name := "handAbort", fn := fun _ => fun
  | [d1, d2, d3, d4, d5] => { results := [.lit (.bool false)], args := [d1, d2, d3, d4, d5] }
  | _ => none }
def HandAbortWrongFalsely : Prop := handAbortRow.holds Try.pinned (OpenSpec.ofChange handAbortWrong)

/-- 'gaugehousekeep.HeavyBound': WHATEVER THE INPUT: true; the input reads as it did. -/
def heavyBoundSpec : ChangeSpec := { name := "heavyBound", fn := fun _ => fun
  | [d1, d2, d3] => { results := [.lit (.bool true)], args := [d1, d2, d3] }
  | _ => none }
def heavyBoundRow : OpenClaim := { program := "ytkkadfjcnocopaa", sum := "0ad0859db8763194e9cc56a523da7f6741e06e2ce554dafe26d73b45896084d3", func := "gaugehouse/gaugehousekeep.HeavyBound", spec := "heavyBound", inPlace := ["slices.overlaps[gaugehouse/api.Count]"], unfollowed := true, recurses := true, apart := false }
def HeavyBoundSaid : Prop := heavyBoundRow.holds Try.pinned (OpenSpec.ofChange heavyBoundSpec)

/-- ITS FALSE NEIGHBOUR: 'it returns false'. Refute it at one input. -/
def heavyBoundWrong : ChangeSpec := { name := "heavyBound", fn := fun _ => fun
  | [d1, d2, d3] => { results := [.lit (.bool false)], args := [d1, d2, d3] }
  | _ => none }
def HeavyBoundWrongFalsely : Prop := heavyBoundRow.holds Try.pinned (OpenSpec.ofChange heavyBoundWrong)

/-- 'gaugehousekeep.HeavyOften': WHATEVER THE INPUT: true; the input reads as it did. -/
def heavyOftenSpec : ChangeSpec := { name := "heavyOften", fn := fun _ => fun
  | [d1, d2, d3] => { results := [.lit (.bool true)], args := [d1, d2, d3] }
  | _ => none }
def heavyOftenRow : OpenClaim := { program := "ytkkadfjcnocopaa", sum := "0ad0859db8763194e9cc56a523da7f6741e06e2ce554dafe26d73b45896084d3", func := "gaugehouse/gaugehousekeep.HeavyOften", spec := "heavyOften", inPlace := ["slices.overlaps[gaugehouse/api.Count]"], unfollowed := true, recurses := true, apart := false }
def HeavyOftenSaid : Prop := heavyOftenRow.holds Try.pinned (OpenSpec.ofChange heavyOftenSpec)

/-- ITS FALSE NEIGHBOUR: 'it returns false'. Refute it at one input. -/
def heavyOftenWrong : ChangeSpec := { name := "heavyOften", fn := fun _ => fun
  | [d1, d2, d3] => { results := [.lit (.bool false)], args := [d1, d2, d3] }
  | _ => none }
def HeavyOftenWrongFalsely : Prop := heavyOftenRow.holds Try.pinned (OpenSpec.ofChange heavyOftenWrong)

/- THE SECOND FORM. 'bulk': how many values and letters a reading holds, each counted each time it is reached (what is shared counts as often as it is met; a slice's spare places count too). A statement '..UptoSaid' is the law's where the arguments, and the package variables that the reading takes, are together of bulk at most 1048576: NARROWER than '..Said'. Prove '..Said' where nothing that the law and all that it calls make is longer than what came in: it says more and counts as full. Else prove '..UptoSaid'. A law counts once. -/
mutual
def uptoBulk {H : Type} : DataW H → Nat
  | .lit (.string bytes) => bytes.length + 1
  | .lit _ => 1
  | .nil => 1
  | .ptr d => uptoBulk d + 1
  | .slice elems spare => uptoBulkAll elems + uptoBulkAll spare + 1
  | .agg parts => uptoBulkAll parts + 1
  | .iface _ d => uptoBulk d + 1
  | .map entries => uptoBulkEntries entries + 1
  | .held _ => 1
def uptoBulkAll {H : Type} : List (DataW H) → Nat
  | [] => 0
  | d :: r => uptoBulk d + uptoBulkAll r
def uptoBulkEntries {H : Type} : List (Lit × DataW H) → Nat
  | [] => 0
  | x :: r => uptoBulkEntry x + uptoBulkEntries r
def uptoBulkEntry {H : Type} : Lit × DataW H → Nat
  | (.string bytes, d) => bytes.length + uptoBulk d + 1
  | (_, d) => uptoBulk d + 1
 end
def uptoSmall : (H : Type) → List (DataW H) → Bool := fun _ ds => decide (uptoBulkAll ds ≤ 1048576)
def OpenSpec.upto (s : _root_.Go.ChangeSpec) : _root_.Go.OpenSpec := { _root_.Go.OpenSpec.ofChange s with cond := some uptoSmall }

/-- 'gaugehousekeep.RankWeight', WHERE WHAT IT READS IS OF BULK AT MOST 1048576: true; the input reads as it did. -/
def rankWeightUptoRow : OpenClaim := { program := "ytkkadfjcnocopaa", sum := "0ad0859db8763194e9cc56a523da7f6741e06e2ce554dafe26d73b45896084d3", func := "gaugehouse/gaugehousekeep.RankWeight", spec := "rankWeight", unfollowed := true, recurses := true, apart := false, narrowed := true }
def RankWeightUptoSaid : Prop := rankWeightUptoRow.holds Try.pinned (OpenSpec.upto rankWeightSpec)

/-- 'gaugehousekeep.SketchOver', WHERE WHAT IT READS IS OF BULK AT MOST 1048576: true; the input reads as it did. -/
def sketchOverUptoRow : OpenClaim := { program := "ytkkadfjcnocopaa", sum := "0ad0859db8763194e9cc56a523da7f6741e06e2ce554dafe26d73b45896084d3", func := "gaugehouse/gaugehousekeep.SketchOver", spec := "sketchOver", unfollowed := true, recurses := true, apart := false, narrowed := true }
def SketchOverUptoSaid : Prop := sketchOverUptoRow.holds Try.pinned (OpenSpec.upto sketchOverSpec)

/-- 'gaugehousekeep.SketchOften', WHERE WHAT IT READS IS OF BULK AT MOST 1048576: true; the input reads as it did. -/
def sketchOftenUptoRow : OpenClaim := { program := "ytkkadfjcnocopaa", sum := "0ad0859db8763194e9cc56a523da7f6741e06e2ce554dafe26d73b45896084d3", func := "gaugehouse/gaugehousekeep.SketchOften", spec := "sketchOften", unfollowed := true, recurses := true, apart := false, narrowed := true }
def SketchOftenUptoSaid : Prop := sketchOftenUptoRow.holds Try.pinned (OpenSpec.upto sketchOftenSpec)

/-- 'gaugehousekeep.SketchMore', WHERE WHAT IT READS IS OF BULK AT MOST 1048576: true; the input reads as it did. -/
def sketchMoreUptoRow : OpenClaim := { program := "ytkkadfjcnocopaa", sum := "0ad0859db8763194e9cc56a523da7f6741e06e2ce554dafe26d73b45896084d3", func := "gaugehouse/gaugehousekeep.SketchMore", spec := "sketchMore", unfollowed := true, recurses := true, apart := false, narrowed := true }
def SketchMoreUptoSaid : Prop := sketchMoreUptoRow.holds Try.pinned (OpenSpec.upto sketchMoreSpec)

/-- 'gaugehousekeep.SketchLinear', WHERE WHAT IT READS IS OF BULK AT MOST 1048576: true; the input reads as it did. -/
def sketchLinearUptoRow : OpenClaim := { program := "ytkkadfjcnocopaa", sum := "0ad0859db8763194e9cc56a523da7f6741e06e2ce554dafe26d73b45896084d3", func := "gaugehouse/gaugehousekeep.SketchLinear", spec := "sketchLinear", unfollowed := true, recurses := true, apart := false, narrowed := true }
def SketchLinearUptoSaid : Prop := sketchLinearUptoRow.holds Try.pinned (OpenSpec.upto sketchLinearSpec)

/-- 'gaugehousekeep.ClaimNewer', WHERE WHAT IT READS IS OF BULK AT MOST 1048576: true; the input reads as it did. -/
def claimNewerUptoRow : OpenClaim := { program := "ytkkadfjcnocopaa", sum := "0ad0859db8763194e9cc56a523da7f6741e06e2ce554dafe26d73b45896084d3", func := "gaugehouse/gaugehousekeep.ClaimNewer", spec := "claimNewer", unfollowed := true, recurses := true, apart := false, narrowed := true }
def ClaimNewerUptoSaid : Prop := claimNewerUptoRow.holds Try.pinned (OpenSpec.upto claimNewerSpec)

/-- 'gaugehousekeep.ClaimLattice', WHERE WHAT IT READS IS OF BULK AT MOST 1048576: true; the input reads as it did. -/
def claimLatticeUptoRow : OpenClaim := { program := "ytkkadfjcnocopaa", sum := "0ad0859db8763194e9cc56a523da7f6741e06e2ce554dafe26d73b45896084d3", func := "gaugehouse/gaugehousekeep.ClaimLattice", spec := "claimLattice", unfollowed := true, recurses := true, apart := false, narrowed := true }
def ClaimLatticeUptoSaid : Prop := claimLatticeUptoRow.holds Try.pinned (OpenSpec.upto claimLatticeSpec)

/-- 'gaugehousekeep.ClaimUpper', WHERE WHAT IT READS IS OF BULK AT MOST 1048576: true; the input reads as it did. -/
def claimUpperUptoRow : OpenClaim := { program := "ytkkadfjcnocopaa", sum := "0ad0859db8763194e9cc56a523da7f6741e06e2ce554dafe26d73b45896084d3", func := "gaugehouse/gaugehousekeep.ClaimUpper", spec := "claimUpper", unfollowed := true, recurses := true, apart := false, narrowed := true }
def ClaimUpperUptoSaid : Prop := claimUpperUptoRow.holds Try.pinned (OpenSpec.upto claimUpperSpec)

/-- 'gaugehousekeep.GossipLess', WHERE WHAT IT READS IS OF BULK AT MOST 1048576: true; the input reads as it did. -/
def gossipLessUptoRow : OpenClaim := { program := "ytkkadfjcnocopaa", sum := "0ad0859db8763194e9cc56a523da7f6741e06e2ce554dafe26d73b45896084d3", func := "gaugehouse/gaugehousekeep.GossipLess", spec := "gossipLess", unfollowed := true, recurses := true, apart := false, narrowed := true }
def GossipLessUptoSaid : Prop := gossipLessUptoRow.holds Try.pinned (OpenSpec.upto gossipLessSpec)

/-- 'gaugehousekeep.GossipBoth', WHERE WHAT IT READS IS OF BULK AT MOST 1048576: true; the input reads as it did. -/
def gossipBothUptoRow : OpenClaim := { program := "ytkkadfjcnocopaa", sum := "0ad0859db8763194e9cc56a523da7f6741e06e2ce554dafe26d73b45896084d3", func := "gaugehouse/gaugehousekeep.GossipBoth", spec := "gossipBoth", unfollowed := true, recurses := true, apart := false, narrowed := true }
def GossipBothUptoSaid : Prop := gossipBothUptoRow.holds Try.pinned (OpenSpec.upto gossipBothSpec)

/-- 'gaugehousekeep.GossipGrows', WHERE WHAT IT READS IS OF BULK AT MOST 1048576: true; the input reads as it did. -/
def gossipGrowsUptoRow : OpenClaim := { program := "ytkkadfjcnocopaa", sum := "0ad0859db8763194e9cc56a523da7f6741e06e2ce554dafe26d73b45896084d3", func := "gaugehouse/gaugehousekeep.GossipGrows", spec := "gossipGrows", unfollowed := true, recurses := true, apart := false, narrowed := true }
def GossipGrowsUptoSaid : Prop := gossipGrowsUptoRow.holds Try.pinned (OpenSpec.upto gossipGrowsSpec)

/-- 'gaugehousekeep.GossipAll', WHERE WHAT IT READS IS OF BULK AT MOST 1048576: true; the input reads as it did. -/
def gossipAllUptoRow : OpenClaim := { program := "ytkkadfjcnocopaa", sum := "0ad0859db8763194e9cc56a523da7f6741e06e2ce554dafe26d73b45896084d3", func := "gaugehouse/gaugehousekeep.GossipAll", spec := "gossipAll", unfollowed := true, recurses := true, apart := false, narrowed := true }
def GossipAllUptoSaid : Prop := gossipAllUptoRow.holds Try.pinned (OpenSpec.upto gossipAllSpec)

/-- 'gaugehousekeep.HandFences', WHERE WHAT IT READS IS OF BULK AT MOST 1048576: true; the input reads as it did. -/
def handFencesUptoRow : OpenClaim := { program := "ytkkadfjcnocopaa", sum := "0ad0859db8763194e9cc56a523da7f6741e06e2ce554dafe26d73b45896084d3", func := "gaugehouse/gaugehousekeep.HandFences", spec := "handFences", inPlace := ["slices.overlaps[int64]"], apart := false, narrowed := true }
def HandFencesUptoSaid : Prop := handFencesUptoRow.holds Try.pinned (OpenSpec.upto handFencesSpec)

/-- 'gaugehousekeep.HandAbort', WHERE WHAT IT READS IS OF BULK AT MOST 1048576: true; the input reads as it did. -/
def handAbortUptoRow : OpenClaim := { program := "ytkkadfjcnocopaa", sum := "0ad0859db8763194e9cc56a523da7f6741e06e2ce554dafe26d73b45896084d3", func := "gaugehouse/gaugehousekeep.HandAbort", spec := "handAbort", inPlace := ["slices.overlaps[int64]"], unfollowed := true, recurses := true, apart := false, narrowed := true }
def HandAbortUptoSaid : Prop := handAbortUptoRow.holds Try.pinned (OpenSpec.upto handAbortSpec)

/-- 'gaugehousekeep.HeavyBound', WHERE WHAT IT READS IS OF BULK AT MOST 1048576: true; the input reads as it did. -/
def heavyBoundUptoRow : OpenClaim := { program := "ytkkadfjcnocopaa", sum := "0ad0859db8763194e9cc56a523da7f6741e06e2ce554dafe26d73b45896084d3", func := "gaugehouse/gaugehousekeep.HeavyBound", spec := "heavyBound", inPlace := ["slices.overlaps[gaugehouse/api.Count]"], unfollowed := true, recurses := true, apart := false, narrowed := true }
def HeavyBoundUptoSaid : Prop := heavyBoundUptoRow.holds Try.pinned (OpenSpec.upto heavyBoundSpec)

/-- 'gaugehousekeep.HeavyOften', WHERE WHAT IT READS IS OF BULK AT MOST 1048576: true; the input reads as it did. -/
def heavyOftenUptoRow : OpenClaim := { program := "ytkkadfjcnocopaa", sum := "0ad0859db8763194e9cc56a523da7f6741e06e2ce554dafe26d73b45896084d3", func := "gaugehouse/gaugehousekeep.HeavyOften", spec := "heavyOften", inPlace := ["slices.overlaps[gaugehouse/api.Count]"], unfollowed := true, recurses := true, apart := false, narrowed := true }
def HeavyOftenUptoSaid : Prop := heavyOftenUptoRow.holds Try.pinned (OpenSpec.upto heavyOftenSpec)

end Rows
end Go.Proofs.Ytkkadfjcnocopaa
