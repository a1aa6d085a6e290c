/-
  No cell of these rows narrows 'for every input' (looked for: loops, veiled, ifaces, maps, wideKeys, modest, calm, conditions, laid).
  DERIVED. THE GIVEN ROWS OF THIS SEAT. 5 by the template 'for every input the law returns true; each argument reads behind the call as it read before'; 0 by the template 'total and deterministic' (their statements: YthofijhjbaaokaaTotals.lean).
  GIVEN WITH THE SEED: the statements are not yours to turn. If you find one false, say at which input.
  Laid BY PROGRAM, IN A SANDBOX (cutbox-rows.mjs): the forced cells as the released guide's own fill.sh prints them over the translation 31021e7a64b7173c… (all of the seat's roots in one cut). By AI agents, Wed Nov 11 2026. No macro, syntax, notation, axiom, sorry.
-/
import Derived.Test.YthofijhjbaaokaaChecked
import GoSem.Claim
import GoSem.ClaimJoined
import GoSem.ClaimMapViews
import Derived.JoinedTies
import Derived.KernelRfl
namespace Go.Proofs.Ythofijhjbaaokaa
/- THE CELL 'sum', in the pinned program and in every row, IS THE sha256 OF THE DUMP (.gsa) THAT YthofijhjbaaokaaProg.lean LOADS. Nothing in Lean hashes anything: it is a label: what it is worth is what the hold of that sum in a sandbox is worth. -/
noncomputable def Try.pinned : Pinned := { name := "ythofijhjbaaokaa", sum := "31021e7a64b7173ce525bd5c50f9a0402dc6076d8353ca3c19b5fcc4eab89904", checked := Try.checked }
namespace Rows
def none {H : Type} : Left H := { results := [], args := [] }

/-- 'gaugehousekeep.RankMerged': WHATEVER THE INPUT: true; the input reads as it did. -/
def rankMergedSpec : ChangeSpec := { name := "rankMerged", fn := fun _ => fun
  | [d1, d2, d3, d4] => { results := [.lit (.bool true)], args := [d1, d2, d3, d4] }
  | _ => none }
def rankMergedRow : OpenClaim := { program := "ythofijhjbaaokaa", sum := "31021e7a64b7173ce525bd5c50f9a0402dc6076d8353ca3c19b5fcc4eab89904", func := "gaugehouse/gaugehousekeep.RankMerged", spec := "rankMerged", inPlace := ["slices.overlaps[int64]"], unfollowed := true, recurses := true, apart := false }
def RankMergedSaid : Prop := rankMergedRow.holds Try.pinned (OpenSpec.ofChange rankMergedSpec)

/-- ITS FALSE NEIGHBOUR: 'it returns false'. Refute it at one input. -/
def rankMergedWrong : ChangeSpec := { name := "rankMerged", fn := fun _ => fun
  | [d1, d2, d3, d4] => { results := [.lit (.bool false)], args := [d1, d2, d3, d4] }
  | _ => none }
def RankMergedWrongFalsely : Prop := rankMergedRow.holds Try.pinned (OpenSpec.ofChange rankMergedWrong)

/-- 'gaugehousekeep.LeastLattice': WHATEVER THE INPUT: true; the input reads as it did. -/
def leastLatticeSpec : ChangeSpec := { name := "leastLattice", fn := fun _ => fun
  | [d1, d2, d3] => { results := [.lit (.bool true)], args := [d1, d2, d3] }
  | _ => none }
def leastLatticeRow : OpenClaim := { program := "ythofijhjbaaokaa", sum := "31021e7a64b7173ce525bd5c50f9a0402dc6076d8353ca3c19b5fcc4eab89904", func := "gaugehouse/gaugehousekeep.LeastLattice", spec := "leastLattice", unfollowed := true, recurses := true, apart := false }
def LeastLatticeSaid : Prop := leastLatticeRow.holds Try.pinned (OpenSpec.ofChange leastLatticeSpec)

/-- ITS FALSE NEIGHBOUR: 'it returns false'. Refute it at one input. -/
def leastLatticeWrong : ChangeSpec := { name := "leastLattice", fn := fun _ => fun
  | [d1, d2, d3] => { results := [.lit (.bool false)], args := [d1, d2, d3] }
  | _ => none }
def LeastLatticeWrongFalsely : Prop := leastLatticeRow.holds Try.pinned (OpenSpec.ofChange leastLatticeWrong)

/-- 'gaugehousekeep.LeastSet': WHATEVER THE INPUT: true; the input reads as it did. -/
def leastSetSpec : ChangeSpec := { name := "leastSet", fn := fun _ => fun
  | [d1, d2] => { results := [.lit (.bool true)], args := [d1, d2] }
  | _ => none }
def leastSetRow : OpenClaim := { program := "ythofijhjbaaokaa", sum := "31021e7a64b7173ce525bd5c50f9a0402dc6076d8353ca3c19b5fcc4eab89904", func := "gaugehouse/gaugehousekeep.LeastSet", spec := "leastSet", recurses := true, apart := false }
def LeastSetSaid : Prop := leastSetRow.holds Try.pinned (OpenSpec.ofChange leastSetSpec)

/-- ITS FALSE NEIGHBOUR: 'it returns false'. Refute it at one input. -/
def leastSetWrong : ChangeSpec := { name := "leastSet", fn := fun _ => fun
  | [d1, d2] => { results := [.lit (.bool false)], args := [d1, d2] }
  | _ => none }
def LeastSetWrongFalsely : Prop := leastSetRow.holds Try.pinned (OpenSpec.ofChange leastSetWrong)

/-- 'gaugehousekeep.LeastMerged': WHATEVER THE INPUT: true; the input reads as it did. -/
def leastMergedSpec : ChangeSpec := { name := "leastMerged", fn := fun _ => fun
  | [d1, d2, d3] => { results := [.lit (.bool true)], args := [d1, d2, d3] }
  | _ => none }
def leastMergedRow : OpenClaim := { program := "ythofijhjbaaokaa", sum := "31021e7a64b7173ce525bd5c50f9a0402dc6076d8353ca3c19b5fcc4eab89904", func := "gaugehouse/gaugehousekeep.LeastMerged", spec := "leastMerged", recurses := true, apart := false }
def LeastMergedSaid : Prop := leastMergedRow.holds Try.pinned (OpenSpec.ofChange leastMergedSpec)

/-- ITS FALSE NEIGHBOUR: 'it returns false'. Refute it at one input. -/
def leastMergedWrong : ChangeSpec := { name := "leastMerged", fn := fun _ => fun
  | [d1, d2, d3] => { results := [.lit (.bool false)], args := [d1, d2, d3] }
  | _ => none }
def LeastMergedWrongFalsely : Prop := leastMergedRow.holds Try.pinned (OpenSpec.ofChange leastMergedWrong)

/-- 'gaugehousekeep.LeastFew': WHATEVER THE INPUT: true; the input reads as it did. -/
def leastFewSpec : ChangeSpec := { name := "leastFew", fn := fun _ => fun
  | [d1, d2] => { results := [.lit (.bool true)], args := [d1, d2] }
  | _ => none }
def leastFewRow : OpenClaim := { program := "ythofijhjbaaokaa", sum := "31021e7a64b7173ce525bd5c50f9a0402dc6076d8353ca3c19b5fcc4eab89904", func := "gaugehouse/gaugehousekeep.LeastFew", spec := "leastFew", recurses := true, named := ["math/bits.divideError", "math/bits.overflowError"], apart := false }
def LeastFewSaid : Prop := leastFewRow.holds Try.pinned (OpenSpec.ofChange leastFewSpec)

/-- ITS FALSE NEIGHBOUR: 'it returns false'. Refute it at one input. -/
def leastFewWrong : ChangeSpec := { name := "leastFew", fn := fun _ => fun
  | [d1, d2] => { results := [.lit (.bool false)], args := [d1, d2] }
  | _ => none }
def LeastFewWrongFalsely : Prop := leastFewRow.holds Try.pinned (OpenSpec.ofChange leastFewWrong)

/- THE SECOND FORM. 'bulk': how many values and letters a reading holds, each counted each time it is reached (what is shared counts as often as it is met; a slice's spare places count too). A statement '..UptoSaid' is the law's where the arguments, and the package variables that the reading takes, are together of bulk at most 1048576: NARROWER than '..Said'. Prove '..Said' where nothing that the law and all that it calls make is longer than what came in: it says more and counts as full. Else prove '..UptoSaid'. A law counts once. -/
mutual
def uptoBulk {H : Type} : DataW H → Nat
  | .lit (.string bytes) => bytes.length + 1
  | .lit _ => 1
  | .nil => 1
  | .ptr d => uptoBulk d + 1
  | .slice elems spare => uptoBulkAll elems + uptoBulkAll spare + 1
  | .agg parts => uptoBulkAll parts + 1
  | .iface _ d => uptoBulk d + 1
  | .map entries => uptoBulkEntries entries + 1
  | .held _ => 1
def uptoBulkAll {H : Type} : List (DataW H) → Nat
  | [] => 0
  | d :: r => uptoBulk d + uptoBulkAll r
def uptoBulkEntries {H : Type} : List (Lit × DataW H) → Nat
  | [] => 0
  | x :: r => uptoBulkEntry x + uptoBulkEntries r
def uptoBulkEntry {H : Type} : Lit × DataW H → Nat
  | (.string bytes, d) => bytes.length + uptoBulk d + 1
  | (_, d) => uptoBulk d + 1
 end
def uptoSmall : (H : Type) → List (DataW H) → Bool := fun _ ds => decide (uptoBulkAll ds ≤ 1048576)
def OpenSpec.upto (s : _root_.Go.ChangeSpec) : _root_.Go.OpenSpec := { _root_.Go.OpenSpec.ofChange s with cond := some uptoSmall }

/-- 'gaugehousekeep.RankMerged', WHERE WHAT IT READS IS OF BULK AT MOST 1048576: true; the input reads as it did. -/
def rankMergedUptoRow : OpenClaim := { program := "ythofijhjbaaokaa", sum := "31021e7a64b7173ce525bd5c50f9a0402dc6076d8353ca3c19b5fcc4eab89904", func := "gaugehouse/gaugehousekeep.RankMerged", spec := "rankMerged", inPlace := ["slices.overlaps[int64]"], unfollowed := true, recurses := true, apart := false, narrowed := true }
def RankMergedUptoSaid : Prop := rankMergedUptoRow.holds Try.pinned (OpenSpec.upto rankMergedSpec)

/-- 'gaugehousekeep.LeastLattice', WHERE WHAT IT READS IS OF BULK AT MOST 1048576: true; the input reads as it did. -/
def leastLatticeUptoRow : OpenClaim := { program := "ythofijhjbaaokaa", sum := "31021e7a64b7173ce525bd5c50f9a0402dc6076d8353ca3c19b5fcc4eab89904", func := "gaugehouse/gaugehousekeep.LeastLattice", spec := "leastLattice", unfollowed := true, recurses := true, apart := false, narrowed := true }
def LeastLatticeUptoSaid : Prop := leastLatticeUptoRow.holds Try.pinned (OpenSpec.upto leastLatticeSpec)

/-- 'gaugehousekeep.LeastSet', WHERE WHAT IT READS IS OF BULK AT MOST 1048576: true; the input reads as it did. -/
def leastSetUptoRow : OpenClaim := { program := "ythofijhjbaaokaa", sum := "31021e7a64b7173ce525bd5c50f9a0402dc6076d8353ca3c19b5fcc4eab89904", func := "gaugehouse/gaugehousekeep.LeastSet", spec := "leastSet", recurses := true, apart := false, narrowed := true }
def LeastSetUptoSaid : Prop := leastSetUptoRow.holds Try.pinned (OpenSpec.upto leastSetSpec)

/-- 'gaugehousekeep.LeastMerged', WHERE WHAT IT READS IS OF BULK AT MOST 1048576: true; the input reads as it did. -/
def leastMergedUptoRow : OpenClaim := { program := "ythofijhjbaaokaa", sum := "31021e7a64b7173ce525bd5c50f9a0402dc6076d8353ca3c19b5fcc4eab89904", func := "gaugehouse/gaugehousekeep.LeastMerged", spec := "leastMerged", recurses := true, apart := false, narrowed := true }
def LeastMergedUptoSaid : Prop := leastMergedUptoRow.holds Try.pinned (OpenSpec.upto leastMergedSpec)

/-- 'gaugehousekeep.LeastFew', WHERE WHAT IT READS IS OF BULK AT MOST 1048576: true; the input reads as it did. -/
def leastFewUptoRow : OpenClaim := { program := "ythofijhjbaaokaa", sum := "31021e7a64b7173ce525bd5c50f9a0402dc6076d8353ca3c19b5fcc4eab89904", func := "gaugehouse/gaugehousekeep.LeastFew", spec := "leastFew", recurses := true, named := ["math/bits.divideError", "math/bits.overflowError"], apart := false, narrowed := true }
def LeastFewUptoSaid : Prop := leastFewUptoRow.holds Try.pinned (OpenSpec.upto leastFewSpec)

end Rows
end Go.Proofs.Ythofijhjbaaokaa
