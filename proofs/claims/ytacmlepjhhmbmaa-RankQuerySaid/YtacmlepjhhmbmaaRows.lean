/-
  No cell of these rows narrows 'for every input' (looked for: loops, veiled, ifaces, maps, wideKeys, modest, calm, conditions, laid).
  DERIVED. THE GIVEN ROWS OF THIS SEAT. 7 by the template 'for every input the law returns true; each argument reads behind the call as it read before'; 0 by the template 'total and deterministic' (their statements: YtacmlepjhhmbmaaTotals.lean).
  GIVEN WITH THE SEED: the statements are not yours to turn. If you find one false, say at which input.
  Laid BY PROGRAM, IN A SANDBOX (cutbox-rows.mjs): the forced cells as the released guide's own fill.sh prints them over the translation c1bd316b8ca1a2b2… (all of the seat's roots in one cut). By AI agents, Wed Nov 11 2026. No macro, syntax, notation, axiom, sorry.
-/
import Derived.Test.YtacmlepjhhmbmaaChecked
import GoSem.Claim
import GoSem.ClaimJoined
import GoSem.ClaimMapViews
import Derived.JoinedTies
import Derived.KernelRfl
namespace Go.Proofs.Ytacmlepjhhmbmaa
/- THE CELL 'sum', in the pinned program and in every row, IS THE sha256 OF THE DUMP (.gsa) THAT YtacmlepjhhmbmaaProg.lean LOADS. Nothing in Lean hashes anything: it is a label: what it is worth is what the hold of that sum in a sandbox is worth. -/
noncomputable def Try.pinned : Pinned := { name := "ytacmlepjhhmbmaa", sum := "c1bd316b8ca1a2b25093c7995157c1f21859f125ebe0c129e785fd43a127d4fa", checked := Try.checked }
namespace Rows
def none {H : Type} : Left H := { results := [], args := [] }

/-- 'gaugehousekeep.IndexBoole': WHATEVER THE INPUT: true; the input reads as it did. -/
def indexBooleSpec : ChangeSpec := { name := "indexBoole", fn := fun _ => fun
  | [d1, d2, d3] => { results := [.lit (.bool true)], args := [d1, d2, d3] }
  | _ => none }
def indexBooleRow : OpenClaim := { program := "ytacmlepjhhmbmaa", sum := "c1bd316b8ca1a2b25093c7995157c1f21859f125ebe0c129e785fd43a127d4fa", func := "gaugehouse/gaugehousekeep.IndexBoole", spec := "indexBoole", unfollowed := true, recurses := true, apart := false }
def IndexBooleSaid : Prop := indexBooleRow.holds Try.pinned (OpenSpec.ofChange indexBooleSpec)

/-- ITS FALSE NEIGHBOUR: 'it returns false'. Refute it at one input. -/
def indexBooleWrong : ChangeSpec := { name := "indexBoole", fn := fun _ => fun
  | [d1, d2, d3] => { results := [.lit (.bool false)], args := [d1, d2, d3] }
  | _ => none }
def IndexBooleWrongFalsely : Prop := indexBooleRow.holds Try.pinned (OpenSpec.ofChange indexBooleWrong)

/-- 'gaugehousekeep.IndexNot': WHATEVER THE INPUT: true; the input reads as it did. -/
def indexNotSpec : ChangeSpec := { name := "indexNot", fn := fun _ => fun
  | [d1, d2, d3] => { results := [.lit (.bool true)], args := [d1, d2, d3] }
  | _ => none }
def indexNotRow : OpenClaim := { program := "ytacmlepjhhmbmaa", sum := "c1bd316b8ca1a2b25093c7995157c1f21859f125ebe0c129e785fd43a127d4fa", func := "gaugehouse/gaugehousekeep.IndexNot", spec := "indexNot", unfollowed := true, recurses := true, apart := false }
def IndexNotSaid : Prop := indexNotRow.holds Try.pinned (OpenSpec.ofChange indexNotSpec)

/-- ITS FALSE NEIGHBOUR: 'it returns false'. Refute it at one input. -/
def indexNotWrong : ChangeSpec := { name := "indexNot", fn := fun _ => fun
  | [d1, d2, d3] => { results := [.lit (.bool false)], args := [d1, d2, d3] }
  | _ => none }
def IndexNotWrongFalsely : Prop := indexNotRow.holds Try.pinned (OpenSpec.ofChange indexNotWrong)

/-- 'gaugehousekeep.RankOrder': WHATEVER THE INPUT: true; the input reads as it did. -/
def rankOrderSpec : ChangeSpec := { name := "rankOrder", fn := fun _ => fun
  | [d1, d2, d3] => { results := [.lit (.bool true)], args := [d1, d2, d3] }
  | _ => none }
def rankOrderRow : OpenClaim := { program := "ytacmlepjhhmbmaa", sum := "c1bd316b8ca1a2b25093c7995157c1f21859f125ebe0c129e785fd43a127d4fa", func := "gaugehouse/gaugehousekeep.RankOrder", spec := "rankOrder", unfollowed := true, recurses := true, apart := false }
def RankOrderSaid : Prop := rankOrderRow.holds Try.pinned (OpenSpec.ofChange rankOrderSpec)

/-- ITS FALSE NEIGHBOUR: 'it returns false'. Refute it at one input. -/
def rankOrderWrong : ChangeSpec := { name := "rankOrder", fn := fun _ => fun
  | [d1, d2, d3] => { results := [.lit (.bool false)], args := [d1, d2, d3] }
  | _ => none }
def RankOrderWrongFalsely : Prop := rankOrderRow.holds Try.pinned (OpenSpec.ofChange rankOrderWrong)

/-- 'gaugehousekeep.RankSlack': WHATEVER THE INPUT: true; the input reads as it did. -/
def rankSlackSpec : ChangeSpec := { name := "rankSlack", fn := fun _ => fun
  | [d1, d2] => { results := [.lit (.bool true)], args := [d1, d2] }
  | _ => none }
def rankSlackRow : OpenClaim := { program := "ytacmlepjhhmbmaa", sum := "c1bd316b8ca1a2b25093c7995157c1f21859f125ebe0c129e785fd43a127d4fa", func := "gaugehouse/gaugehousekeep.RankSlack", spec := "rankSlack", inPlace := ["slices.overlaps[int64]"], recurses := true, apart := false }
def RankSlackSaid : Prop := rankSlackRow.holds Try.pinned (OpenSpec.ofChange rankSlackSpec)

/-- ITS FALSE NEIGHBOUR: 'it returns false'. Refute it at one input. -/
def rankSlackWrong : ChangeSpec := { name := "rankSlack", fn := fun _ => fun
  | [d1, d2] => { results := [.lit (.bool false)], args := [d1, d2] }
  | _ => none }
def RankSlackWrongFalsely : Prop := rankSlackRow.holds Try.pinned (OpenSpec.ofChange rankSlackWrong)

/-- 'gaugehousekeep.RankBound': WHATEVER THE INPUT: true; the input reads as it did. -/
def rankBoundSpec : ChangeSpec := { name := "rankBound", fn := fun _ => fun
  | [d1, d2, d3] => { results := [.lit (.bool true)], args := [d1, d2, d3] }
  | _ => none }
def rankBoundRow : OpenClaim := { program := "ytacmlepjhhmbmaa", sum := "c1bd316b8ca1a2b25093c7995157c1f21859f125ebe0c129e785fd43a127d4fa", func := "gaugehouse/gaugehousekeep.RankBound", spec := "rankBound", inPlace := ["slices.overlaps[int64]"], recurses := true, apart := false }
def RankBoundSaid : Prop := rankBoundRow.holds Try.pinned (OpenSpec.ofChange rankBoundSpec)

/-- ITS FALSE NEIGHBOUR: 'it returns false'. Refute it at one input. -/
def rankBoundWrong : ChangeSpec := { name := "rankBound", fn := fun _ => fun
  | [d1, d2, d3] => { results := [.lit (.bool false)], args := [d1, d2, d3] }
  | _ => none }
def RankBoundWrongFalsely : Prop := rankBoundRow.holds Try.pinned (OpenSpec.ofChange rankBoundWrong)

/-- 'gaugehousekeep.RankMerged': WHATEVER THE INPUT: true; the input reads as it did. -/
def rankMergedSpec : ChangeSpec := { name := "rankMerged", fn := fun _ => fun
  | [d1, d2, d3, d4] => { results := [.lit (.bool true)], args := [d1, d2, d3, d4] }
  | _ => none }
def rankMergedRow : OpenClaim := { program := "ytacmlepjhhmbmaa", sum := "c1bd316b8ca1a2b25093c7995157c1f21859f125ebe0c129e785fd43a127d4fa", func := "gaugehouse/gaugehousekeep.RankMerged", spec := "rankMerged", inPlace := ["slices.overlaps[int64]"], unfollowed := true, recurses := true, apart := false }
def RankMergedSaid : Prop := rankMergedRow.holds Try.pinned (OpenSpec.ofChange rankMergedSpec)

/-- ITS FALSE NEIGHBOUR: 'it returns false'. Refute it at one input. -/
def rankMergedWrong : ChangeSpec := { name := "rankMerged", fn := fun _ => fun
  | [d1, d2, d3, d4] => { results := [.lit (.bool false)], args := [d1, d2, d3, d4] }
  | _ => none }
def RankMergedWrongFalsely : Prop := rankMergedRow.holds Try.pinned (OpenSpec.ofChange rankMergedWrong)

/-- 'gaugehousekeep.RankQuery': WHATEVER THE INPUT: true; the input reads as it did. -/
def rankQuerySpec : ChangeSpec := { name := "rankQuery", fn := fun _ => fun
  | [d1, d2, d3] => { results := [.lit (.bool true)], args := [d1, d2, d3] }
  | _ => none }
def rankQueryRow : OpenClaim := { program := "ytacmlepjhhmbmaa", sum := "c1bd316b8ca1a2b25093c7995157c1f21859f125ebe0c129e785fd43a127d4fa", func := "gaugehouse/gaugehousekeep.RankQuery", spec := "rankQuery", inPlace := ["slices.overlaps[int64]"], unfollowed := true, recurses := true, apart := false }
def RankQuerySaid : Prop := rankQueryRow.holds Try.pinned (OpenSpec.ofChange rankQuerySpec)

/-- ITS FALSE NEIGHBOUR: 'it returns false'. Refute it at one input. -/
def rankQueryWrong : ChangeSpec := { name := "rankQuery", fn := fun _ => fun
  | [d1, d2, d3] => { results := [.lit (.bool false)], args := [d1, d2, d3] }
  | _ => none }
def RankQueryWrongFalsely : Prop := rankQueryRow.holds Try.pinned (OpenSpec.ofChange rankQueryWrong)

/- THE SECOND FORM. 'bulk': how many values and letters a reading holds, each counted each time it is reached (what is shared counts as often as it is met; a slice's spare places count too). A statement '..UptoSaid' is the law's where the arguments, and the package variables that the reading takes, are together of bulk at most 1048576: NARROWER than '..Said'. Prove '..Said' where nothing that the law and all that it calls make is longer than what came in: it says more and counts as full. Else prove '..UptoSaid'. A law counts once. -/
mutual
def uptoBulk {H : Type} : DataW H → Nat
  | .lit (.string bytes) => bytes.length + 1
  | .lit _ => 1
  | .nil => 1
  | .ptr d => uptoBulk d + 1
  | .slice elems spare => uptoBulkAll elems + uptoBulkAll spare + 1
  | .agg parts => uptoBulkAll parts + 1
  | .iface _ d => uptoBulk d + 1
  | .map entries => uptoBulkEntries entries + 1
  | .held _ => 1
def uptoBulkAll {H : Type} : List (DataW H) → Nat
  | [] => 0
  | d :: r => uptoBulk d + uptoBulkAll r
def uptoBulkEntries {H : Type} : List (Lit × DataW H) → Nat
  | [] => 0
  | x :: r => uptoBulkEntry x + uptoBulkEntries r
def uptoBulkEntry {H : Type} : Lit × DataW H → Nat
  | (.string bytes, d) => bytes.length + uptoBulk d + 1
  | (_, d) => uptoBulk d + 1
 end
def uptoSmall : (H : Type) → List (DataW H) → Bool := fun _ ds => decide (uptoBulkAll ds ≤ 1048576)
def OpenSpec.upto (s : _root_.Go.ChangeSpec) : _root_.Go.OpenSpec := { _root_.Go.OpenSpec.ofChange s with cond := some uptoSmall }

/-- 'gaugehousekeep.IndexBoole', WHERE WHAT IT READS IS OF BULK AT MOST 1048576: true; the input reads as it did. -/
def indexBooleUptoRow : OpenClaim := { program := "ytacmlepjhhmbmaa", sum := "c1bd316b8ca1a2b25093c7995157c1f21859f125ebe0c129e785fd43a127d4fa", func := "gaugehouse/gaugehousekeep.IndexBoole", spec := "indexBoole", unfollowed := true, recurses := true, apart := false, narrowed := true }
def IndexBooleUptoSaid : Prop := indexBooleUptoRow.holds Try.pinned (OpenSpec.upto indexBooleSpec)

/-- 'gaugehousekeep.IndexNot', WHERE WHAT IT READS IS OF BULK AT MOST 1048576: true; the input reads as it did. -/
def indexNotUptoRow : OpenClaim := { program := "ytacmlepjhhmbmaa", sum := "c1bd316b8ca1a2b25093c7995157c1f21859f125ebe0c129e785fd43a127d4fa", func := "gaugehouse/gaugehousekeep.IndexNot", spec := "indexNot", unfollowed := true, recurses := true, apart := false, narrowed := true }
def IndexNotUptoSaid : Prop := indexNotUptoRow.holds Try.pinned (OpenSpec.upto indexNotSpec)

/-- 'gaugehousekeep.RankOrder', WHERE WHAT IT READS IS OF BULK AT MOST 1048576: true; the input reads as it did. -/
def rankOrderUptoRow : OpenClaim := { program := "ytacmlepjhhmbmaa", sum := "c1bd316b8ca1a2b25093c7995157c1f21859f125ebe0c129e785fd43a127d4fa", func := "gaugehouse/gaugehousekeep.RankOrder", spec := "rankOrder", unfollowed := true, recurses := true, apart := false, narrowed := true }
def RankOrderUptoSaid : Prop := rankOrderUptoRow.holds Try.pinned (OpenSpec.upto rankOrderSpec)

/-- 'gaugehousekeep.RankSlack', WHERE WHAT IT READS IS OF BULK AT MOST 1048576: true; the input reads as it did. -/
def rankSlackUptoRow : OpenClaim := { program := "ytacmlepjhhmbmaa", sum := "c1bd316b8ca1a2b25093c7995157c1f21859f125ebe0c129e785fd43a127d4fa", func := "gaugehouse/gaugehousekeep.RankSlack", spec := "rankSlack", inPlace := ["slices.overlaps[int64]"], recurses := true, apart := false, narrowed := true }
def RankSlackUptoSaid : Prop := rankSlackUptoRow.holds Try.pinned (OpenSpec.upto rankSlackSpec)

/-- 'gaugehousekeep.RankBound', WHERE WHAT IT READS IS OF BULK AT MOST 1048576: true; the input reads as it did. -/
def rankBoundUptoRow : OpenClaim := { program := "ytacmlepjhhmbmaa", sum := "c1bd316b8ca1a2b25093c7995157c1f21859f125ebe0c129e785fd43a127d4fa", func := "gaugehouse/gaugehousekeep.RankBound", spec := "rankBound", inPlace := ["slices.overlaps[int64]"], recurses := true, apart := false, narrowed := true }
def RankBoundUptoSaid : Prop := rankBoundUptoRow.holds Try.pinned (OpenSpec.upto rankBoundSpec)

/-- 'gaugehousekeep.RankMerged', WHERE WHAT IT READS IS OF BULK AT MOST 1048576: true; the input reads as it did. -/
def rankMergedUptoRow : OpenClaim := { program := "ytacmlepjhhmbmaa", sum := "c1bd316b8ca1a2b25093c7995157c1f21859f125ebe0c129e785fd43a127d4fa", func := "gaugehouse/gaugehousekeep.RankMerged", spec := "rankMerged", inPlace := ["slices.overlaps[int64]"], unfollowed := true, recurses := true, apart := false, narrowed := true }
def RankMergedUptoSaid : Prop := rankMergedUptoRow.holds Try.pinned (OpenSpec.upto rankMergedSpec)

/-- 'gaugehousekeep.RankQuery', WHERE WHAT IT READS IS OF BULK AT MOST 1048576: true; the input reads as it did. -/
def rankQueryUptoRow : OpenClaim := { program := "ytacmlepjhhmbmaa", sum := "c1bd316b8ca1a2b25093c7995157c1f21859f125ebe0c129e785fd43a127d4fa", func := "gaugehouse/gaugehousekeep.RankQuery", spec := "rankQuery", inPlace := ["slices.overlaps[int64]"], unfollowed := true, recurses := true, apart := false, narrowed := true }
def RankQueryUptoSaid : Prop := rankQueryUptoRow.holds Try.pinned (OpenSpec.upto rankQuerySpec)

end Rows
end Go.Proofs.Ytacmlepjhhmbmaa
