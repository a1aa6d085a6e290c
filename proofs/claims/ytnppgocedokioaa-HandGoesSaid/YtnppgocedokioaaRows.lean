/-
  No cell of these rows narrows 'for every input' (looked for: loops, veiled, ifaces, maps, wideKeys, modest, calm, conditions, laid).
  DERIVED. THE GIVEN ROWS OF THIS SEAT. 6 by the template 'for every input the law returns true; each argument reads behind the call as it read before'; 0 by the template 'total and deterministic' (their statements: YtnppgocedokioaaTotals.lean).
  GIVEN WITH THE SEED: the statements are not yours to turn. If you find one false, say at which input.
  Laid BY PROGRAM, IN A SANDBOX (cutbox-rows.mjs): the forced cells as the released guide's own fill.sh prints them over the translation 2c13de1e5279f1d0… (all of the seat's roots in one cut). By AI agents, Wed Nov 11 2026. No macro, syntax, notation, axiom, sorry.
-/
import Derived.Test.YtnppgocedokioaaChecked
import GoSem.Claim
import GoSem.ClaimJoined
import GoSem.ClaimMapViews
import Derived.JoinedTies
import Derived.KernelRfl
namespace Go.Proofs.Ytnppgocedokioaa
/- THE CELL 'sum', in the pinned program and in every row, IS THE sha256 OF THE DUMP (.gsa) THAT YtnppgocedokioaaProg.lean LOADS. Nothing in Lean hashes anything: it is a label: what it is worth is what the hold of that sum in a sandbox is worth. -/
noncomputable def Try.pinned : Pinned := { name := "ytnppgocedokioaa", sum := "2c13de1e5279f1d0296b81ada21dc6927a4e882cc510e277a884534f695dfffe", checked := Try.checked }
namespace Rows
def none {H : Type} : Left H := { results := [], args := [] }

/-- 'gaugehousekeep.HeavyBound': WHATEVER THE INPUT: true; the input reads as it did. -/
def heavyBoundSpec : ChangeSpec := { name := "heavyBound", fn := fun _ => fun
  | [d1, d2, d3] => { results := [.lit (.bool true)], args := [d1, d2, d3] }
  | _ => none }
def heavyBoundRow : OpenClaim := { program := "ytnppgocedokioaa", sum := "2c13de1e5279f1d0296b81ada21dc6927a4e882cc510e277a884534f695dfffe", func := "gaugehouse/gaugehousekeep.HeavyBound", spec := "heavyBound", inPlace := ["slices.overlaps[gaugehouse/api.Count]"], unfollowed := true, recurses := true, apart := false }
def HeavyBoundSaid : Prop := heavyBoundRow.holds Try.pinned (OpenSpec.ofChange heavyBoundSpec)

/-- ITS FALSE NEIGHBOUR: 'it returns false'. Refute it at one input. -/
def heavyBoundWrong : ChangeSpec := { name := "heavyBound", fn := fun _ => fun
  | [d1, d2, d3] => { results := [.lit (.bool false)], args := [d1, d2, d3] }
  | _ => none }
def HeavyBoundWrongFalsely : Prop := heavyBoundRow.holds Try.pinned (OpenSpec.ofChange heavyBoundWrong)

/-- 'gaugehousekeep.HeavyOften': WHATEVER THE INPUT: true; the input reads as it did. -/
def heavyOftenSpec : ChangeSpec := { name := "heavyOften", fn := fun _ => fun
  | [d1, d2, d3] => { results := [.lit (.bool true)], args := [d1, d2, d3] }
  | _ => none }
def heavyOftenRow : OpenClaim := { program := "ytnppgocedokioaa", sum := "2c13de1e5279f1d0296b81ada21dc6927a4e882cc510e277a884534f695dfffe", func := "gaugehouse/gaugehousekeep.HeavyOften", spec := "heavyOften", inPlace := ["slices.overlaps[gaugehouse/api.Count]"], unfollowed := true, recurses := true, apart := false }
def HeavyOftenSaid : Prop := heavyOftenRow.holds Try.pinned (OpenSpec.ofChange heavyOftenSpec)

/-- ITS FALSE NEIGHBOUR: 'it returns false'. Refute it at one input. -/
def heavyOftenWrong : ChangeSpec := { name := "heavyOften", fn := fun _ => fun
  | [d1, d2, d3] => { results := [.lit (.bool false)], args := [d1, d2, d3] }
  | _ => none }
def HeavyOftenWrongFalsely : Prop := heavyOftenRow.holds Try.pinned (OpenSpec.ofChange heavyOftenWrong)

/-- 'gaugehousekeep.HeavyFew': WHATEVER THE INPUT: true; the input reads as it did. -/
def heavyFewSpec : ChangeSpec := { name := "heavyFew", fn := fun _ => fun
  | [d1, d2, d3] => { results := [.lit (.bool true)], args := [d1, d2, d3] }
  | _ => none }
def heavyFewRow : OpenClaim := { program := "ytnppgocedokioaa", sum := "2c13de1e5279f1d0296b81ada21dc6927a4e882cc510e277a884534f695dfffe", func := "gaugehouse/gaugehousekeep.HeavyFew", spec := "heavyFew", inPlace := ["slices.overlaps[gaugehouse/api.Count]"], unfollowed := true, recurses := true, apart := false }
def HeavyFewSaid : Prop := heavyFewRow.holds Try.pinned (OpenSpec.ofChange heavyFewSpec)

/-- ITS FALSE NEIGHBOUR: 'it returns false'. Refute it at one input. -/
def heavyFewWrong : ChangeSpec := { name := "heavyFew", fn := fun _ => fun
  | [d1, d2, d3] => { results := [.lit (.bool false)], args := [d1, d2, d3] }
  | _ => none }
def HeavyFewWrongFalsely : Prop := heavyFewRow.holds Try.pinned (OpenSpec.ofChange heavyFewWrong)

/-- 'gaugehousekeep.HeavyMerged': WHATEVER THE INPUT: true; the input reads as it did. -/
def heavyMergedSpec : ChangeSpec := { name := "heavyMerged", fn := fun _ => fun
  | [d1, d2, d3, d4] => { results := [.lit (.bool true)], args := [d1, d2, d3, d4] }
  | _ => none }
def heavyMergedRow : OpenClaim := { program := "ytnppgocedokioaa", sum := "2c13de1e5279f1d0296b81ada21dc6927a4e882cc510e277a884534f695dfffe", func := "gaugehouse/gaugehousekeep.HeavyMerged", spec := "heavyMerged", inPlace := ["slices.overlaps[gaugehouse/api.Count]"], unfollowed := true, recurses := true, apart := false }
def HeavyMergedSaid : Prop := heavyMergedRow.holds Try.pinned (OpenSpec.ofChange heavyMergedSpec)

/-- ITS FALSE NEIGHBOUR: 'it returns false'. Refute it at one input. -/
def heavyMergedWrong : ChangeSpec := { name := "heavyMerged", fn := fun _ => fun
  | [d1, d2, d3, d4] => { results := [.lit (.bool false)], args := [d1, d2, d3, d4] }
  | _ => none }
def HeavyMergedWrongFalsely : Prop := heavyMergedRow.holds Try.pinned (OpenSpec.ofChange heavyMergedWrong)

/-- 'gaugehousekeep.HandKeeps': WHATEVER THE INPUT: true; the input reads as it did. -/
def handKeepsSpec : ChangeSpec := { name := "handKeeps", fn := fun _ => fun
  | [d1, d2] => { results := [.lit (.bool true)], args := [d1, d2] }
  | _ => none }
def handKeepsRow : OpenClaim := { program := "ytnppgocedokioaa", sum := "2c13de1e5279f1d0296b81ada21dc6927a4e882cc510e277a884534f695dfffe", func := "gaugehouse/gaugehousekeep.HandKeeps", spec := "handKeeps", inPlace := ["slices.overlaps[int64]"], recurses := true, apart := false }
def HandKeepsSaid : Prop := handKeepsRow.holds Try.pinned (OpenSpec.ofChange handKeepsSpec)

/-- ITS FALSE NEIGHBOUR: 'it returns false'. Refute it at one input. -/
def handKeepsWrong : ChangeSpec := { name := "handKeeps", fn := fun _ => fun
  | [d1, d2] => { results := [.lit (.bool false)], args := [d1, d2] }
  | _ => none }
def HandKeepsWrongFalsely : Prop := handKeepsRow.holds Try.pinned (OpenSpec.ofChange handKeepsWrong)

/-- 'gaugehousekeep.HandGoes': WHATEVER THE INPUT: true; the input reads as it did. -/
def handGoesSpec : ChangeSpec := { name := "handGoes", fn := fun _ => fun
  | [d1, d2, d3, d4] => { results := [.lit (.bool true)], args := [d1, d2, d3, d4] }
  | _ => none }
def handGoesRow : OpenClaim := { program := "ytnppgocedokioaa", sum := "2c13de1e5279f1d0296b81ada21dc6927a4e882cc510e277a884534f695dfffe", func := "gaugehouse/gaugehousekeep.HandGoes", spec := "handGoes", inPlace := ["slices.overlaps[int64]"], recurses := true, apart := false }
def HandGoesSaid : Prop := handGoesRow.holds Try.pinned (OpenSpec.ofChange handGoesSpec)

/-- ITS FALSE NEIGHBOUR: 'it returns false'. Refute it at one input. -/
def handGoesWrong : ChangeSpec := { name := "handGoes", fn := fun _ => fun
  | [d1, d2, d3, d4] => { results := [.lit (.bool false)], args := [d1, d2, d3, d4] }
  | _ => none }
def HandGoesWrongFalsely : Prop := handGoesRow.holds Try.pinned (OpenSpec.ofChange handGoesWrong)

/- THE SECOND FORM. 'bulk': how many values and letters a reading holds, each counted each time it is reached (what is shared counts as often as it is met; a slice's spare places count too). A statement '..UptoSaid' is the law's where the arguments, and the package variables that the reading takes, are together of bulk at most 1048576: NARROWER than '..Said'. Prove '..Said' where nothing that the law and all that it calls make is longer than what came in: it says more and counts as full. Else prove '..UptoSaid'. A law counts once. -/
mutual
def uptoBulk {H : Type} : DataW H → Nat
  | .lit (.string bytes) => bytes.length + 1
  | .lit _ => 1
  | .nil => 1
  | .ptr d => uptoBulk d + 1
  | .slice elems spare => uptoBulkAll elems + uptoBulkAll spare + 1
  | .agg parts => uptoBulkAll parts + 1
  | .iface _ d => uptoBulk d + 1
  | .map entries => uptoBulkEntries entries + 1
  | .held _ => 1
def uptoBulkAll {H : Type} : List (DataW H) → Nat
  | [] => 0
  | d :: r => uptoBulk d + uptoBulkAll r
def uptoBulkEntries {H : Type} : List (Lit × DataW H) → Nat
  | [] => 0
  | x :: r => uptoBulkEntry x + uptoBulkEntries r
def uptoBulkEntry {H : Type} : Lit × DataW H → Nat
  | (.string bytes, d) => bytes.length + uptoBulk d + 1
  | (_, d) => uptoBulk d + 1
 end
def uptoSmall : (H : Type) → List (DataW H) → Bool := fun _ ds => decide (uptoBulkAll ds ≤ 1048576)
def OpenSpec.upto (s : _root_.Go.ChangeSpec) : _root_.Go.OpenSpec := { _root_.Go.OpenSpec.ofChange s with cond := some uptoSmall }

/-- 'gaugehousekeep.HeavyBound', WHERE WHAT IT READS IS OF BULK AT MOST 1048576: true; the input reads as it did. -/
def heavyBoundUptoRow : OpenClaim := { program := "ytnppgocedokioaa", sum := "2c13de1e5279f1d0296b81ada21dc6927a4e882cc510e277a884534f695dfffe", func := "gaugehouse/gaugehousekeep.HeavyBound", spec := "heavyBound", inPlace := ["slices.overlaps[gaugehouse/api.Count]"], unfollowed := true, recurses := true, apart := false, narrowed := true }
def HeavyBoundUptoSaid : Prop := heavyBoundUptoRow.holds Try.pinned (OpenSpec.upto heavyBoundSpec)

/-- 'gaugehousekeep.HeavyOften', WHERE WHAT IT READS IS OF BULK AT MOST 1048576: true; the input reads as it did. -/
def heavyOftenUptoRow : OpenClaim := { program := "ytnppgocedokioaa", sum := "2c13de1e5279f1d0296b81ada21dc6927a4e882cc510e277a884534f695dfffe", func := "gaugehouse/gaugehousekeep.HeavyOften", spec := "heavyOften", inPlace := ["slices.overlaps[gaugehouse/api.Count]"], unfollowed := true, recurses := true, apart := false, narrowed := true }
def HeavyOftenUptoSaid : Prop := heavyOftenUptoRow.holds Try.pinned (OpenSpec.upto heavyOftenSpec)

/-- 'gaugehousekeep.HeavyFew', WHERE WHAT IT READS IS OF BULK AT MOST 1048576: true; the input reads as it did. -/
def heavyFewUptoRow : OpenClaim := { program := "ytnppgocedokioaa", sum := "2c13de1e5279f1d0296b81ada21dc6927a4e882cc510e277a884534f695dfffe", func := "gaugehouse/gaugehousekeep.HeavyFew", spec := "heavyFew", inPlace := ["slices.overlaps[gaugehouse/api.Count]"], unfollowed := true, recurses := true, apart := false, narrowed := true }
def HeavyFewUptoSaid : Prop := heavyFewUptoRow.holds Try.pinned (OpenSpec.upto heavyFewSpec)

/-- 'gaugehousekeep.HeavyMerged', WHERE WHAT IT READS IS OF BULK AT MOST 1048576: true; the input reads as it did. -/
def heavyMergedUptoRow : OpenClaim := { program := "ytnppgocedokioaa", sum := "2c13de1e5279f1d0296b81ada21dc6927a4e882cc510e277a884534f695dfffe", func := "gaugehouse/gaugehousekeep.HeavyMerged", spec := "heavyMerged", inPlace := ["slices.overlaps[gaugehouse/api.Count]"], unfollowed := true, recurses := true, apart := false, narrowed := true }
def HeavyMergedUptoSaid : Prop := heavyMergedUptoRow.holds Try.pinned (OpenSpec.upto heavyMergedSpec)

/-- 'gaugehousekeep.HandKeeps', WHERE WHAT IT READS IS OF BULK AT MOST 1048576: true; the input reads as it did. -/
def handKeepsUptoRow : OpenClaim := { program := "ytnppgocedokioaa", sum := "2c13de1e5279f1d0296b81ada21dc6927a4e882cc510e277a884534f695dfffe", func := "gaugehouse/gaugehousekeep.HandKeeps", spec := "handKeeps", inPlace := ["slices.overlaps[int64]"], recurses := true, apart := false, narrowed := true }
def HandKeepsUptoSaid : Prop := handKeepsUptoRow.holds Try.pinned (OpenSpec.upto handKeepsSpec)

/-- 'gaugehousekeep.HandGoes', WHERE WHAT IT READS IS OF BULK AT MOST 1048576: true; the input reads as it did. -/
def handGoesUptoRow : OpenClaim := { program := "ytnppgocedokioaa", sum := "2c13de1e5279f1d0296b81ada21dc6927a4e882cc510e277a884534f695dfffe", func := "gaugehouse/gaugehousekeep.HandGoes", spec := "handGoes", inPlace := ["slices.overlaps[int64]"], recurses := true, apart := false, narrowed := true }
def HandGoesUptoSaid : Prop := handGoesUptoRow.holds Try.pinned (OpenSpec.upto handGoesSpec)

end Rows
end Go.Proofs.Ytnppgocedokioaa
