/-
  NARROWER THAN 'FOR EVERY INPUT', by the rows' own cells (each row's printed sentence says how): DeltaMoved: laid · DeltaSteady: laid · DeltaBack: laid · DeltaOne: laid · XorTurned: laid · XorSame: laid · XorBack: laid · XorOne: laid · ChunkBack: laid · ChunkOne: laid.
  DERIVED. THE GIVEN ROWS OF THIS SEAT. 10 by the template 'for every input the law returns true; each argument reads behind the call as it read before'; 0 by the template 'total and deterministic' (their statements: YtkcfhfplppdnnaaDoorTotals.lean).
  GIVEN WITH THE SEED: the statements are not yours to turn. If you find one false, say at which input.
  Laid BY PROGRAM, IN A SANDBOX (cutbox-rows.mjs): the forced cells as the released guide's own fill.sh prints them over the translation fda6d6788aa5aa79… (all of the seat's roots in one cut). By AI agents, Wed Nov 11 2026. No macro, syntax, notation, axiom, sorry.
-/
import Derived.Test.YtkcfhfplppdnnaaDoorChecked
import GoSem.Claim
import GoSem.ClaimJoined
import GoSem.ClaimMapViews
import Derived.JoinedTies
import Derived.KernelRfl
namespace Go.Proofs.YtkcfhfplppdnnaaDoor
/- THE CELL 'sum', in the pinned program and in every row, IS THE sha256 OF THE DUMP (.gsa) THAT YtkcfhfplppdnnaaDoorProg.lean LOADS. Nothing in Lean hashes anything: it is a label: what it is worth is what the hold of that sum in a sandbox is worth. -/
noncomputable def Tryd.pinned : Pinned := { name := "ytkcfhfplppdnnaadoor", sum := "fda6d6788aa5aa7904b0133743cc39e9360eed736f62e9e7331f6ed1a078a863", checked := Tryd.checked }
namespace Rows
def none {H : Type} : Left H := { results := [], args := [] }

/- WHAT THE LISTED PACKAGE-LEVEL VARIABLES READ AS WHEN THE CALL BEGINS. Each datum BY PROGRAM (the guide's laid-datum.mjs) off the statement by which the dump's own 'gosem.cut.vars' lays the variable. In a bare row this is a premise. The card (YtkcfhfplppdnnaaDoorCards.lean) ties it to the program's text. -/
def laid_gaugehouse_delta_widths {H : Type} : DataW H := .agg [.agg [.lit (.int .u64 0), .lit (.int .i64 1), .lit (.int .i64 0)], .agg [.lit (.int .u64 2), .lit (.int .i64 2), .lit (.int .i64 7)], .agg [.lit (.int .u64 6), .lit (.int .i64 3), .lit (.int .i64 9)], .agg [.lit (.int .u64 14), .lit (.int .i64 4), .lit (.int .i64 12)], .agg [.lit (.int .u64 15), .lit (.int .i64 4), .lit (.int .i64 64)]]
def laid_math_bits_deBruijn64tab {H : Type} : DataW H := .agg [.lit (.int .u8 0), .lit (.int .u8 1), .lit (.int .u8 56), .lit (.int .u8 2), .lit (.int .u8 57), .lit (.int .u8 49), .lit (.int .u8 28), .lit (.int .u8 3), .lit (.int .u8 61), .lit (.int .u8 58), .lit (.int .u8 42), .lit (.int .u8 50), .lit (.int .u8 38), .lit (.int .u8 29), .lit (.int .u8 17), .lit (.int .u8 4), .lit (.int .u8 62), .lit (.int .u8 47), .lit (.int .u8 59), .lit (.int .u8 36), .lit (.int .u8 45), .lit (.int .u8 43), .lit (.int .u8 51), .lit (.int .u8 22), .lit (.int .u8 53), .lit (.int .u8 39), .lit (.int .u8 33), .lit (.int .u8 30), .lit (.int .u8 24), .lit (.int .u8 18), .lit (.int .u8 12), .lit (.int .u8 5), .lit (.int .u8 63), .lit (.int .u8 55), .lit (.int .u8 48), .lit (.int .u8 27), .lit (.int .u8 60), .lit (.int .u8 41), .lit (.int .u8 37), .lit (.int .u8 16), .lit (.int .u8 46), .lit (.int .u8 35), .lit (.int .u8 44), .lit (.int .u8 21), .lit (.int .u8 52), .lit (.int .u8 32), .lit (.int .u8 23), .lit (.int .u8 11), .lit (.int .u8 54), .lit (.int .u8 26), .lit (.int .u8 40), .lit (.int .u8 15), .lit (.int .u8 34), .lit (.int .u8 20), .lit (.int .u8 31), .lit (.int .u8 10), .lit (.int .u8 25), .lit (.int .u8 14), .lit (.int .u8 19), .lit (.int .u8 9), .lit (.int .u8 13), .lit (.int .u8 8), .lit (.int .u8 7), .lit (.int .u8 6)]

/-- 'gaugehousekeep.DeltaMoved': WHATEVER THE INPUT: true; the input reads as it did. -/
def deltaMovedSpec : ChangeSpec := { name := "deltaMoved", fn := fun _ => fun
  | [d1, d2] => { results := [.lit (.bool true)], args := [d1, d2] }
  | _ => none }
def deltaMovedRow : OpenClaim := { program := "ytkcfhfplppdnnaadoor", sum := "fda6d6788aa5aa7904b0133743cc39e9360eed736f62e9e7331f6ed1a078a863", func := "gaugehouse/gaugehousekeep.DeltaMoved", spec := "deltaMoved", named := ["gaugehouse/delta.widths"], apart := false, laid := [("gaugehouse/delta.widths", laid_gaugehouse_delta_widths)] }
def DeltaMovedSaid : Prop := deltaMovedRow.holds Tryd.pinned (OpenSpec.ofChange deltaMovedSpec)

/-- ITS FALSE NEIGHBOUR: 'it returns false'. Refute it at one input. -/
def deltaMovedWrong : ChangeSpec := { name := "deltaMoved", fn := fun _ => fun
  | [d1, d2] => { results := [.lit (.bool false)], args := [d1, d2] }
  | _ => none }
def DeltaMovedWrongFalsely : Prop := deltaMovedRow.holds Tryd.pinned (OpenSpec.ofChange deltaMovedWrong)

/-- 'gaugehousekeep.DeltaSteady': WHATEVER THE INPUT: true; the input reads as it did. -/
def deltaSteadySpec : ChangeSpec := { name := "deltaSteady", fn := fun _ => fun
  | [d1, d2, d3] => { results := [.lit (.bool true)], args := [d1, d2, d3] }
  | _ => none }
def deltaSteadyRow : OpenClaim := { program := "ytkcfhfplppdnnaadoor", sum := "fda6d6788aa5aa7904b0133743cc39e9360eed736f62e9e7331f6ed1a078a863", func := "gaugehouse/gaugehousekeep.DeltaSteady", spec := "deltaSteady", unfollowed := true, recurses := true, named := ["gaugehouse/delta.widths"], apart := false, laid := [("gaugehouse/delta.widths", laid_gaugehouse_delta_widths)] }
def DeltaSteadySaid : Prop := deltaSteadyRow.holds Tryd.pinned (OpenSpec.ofChange deltaSteadySpec)

/-- ITS FALSE NEIGHBOUR: 'it returns false'. Refute it at one input. -/
def deltaSteadyWrong : ChangeSpec := { name := "deltaSteady", fn := fun _ => fun
  | [d1, d2, d3] => { results := [.lit (.bool false)], args := [d1, d2, d3] }
  | _ => none }
def DeltaSteadyWrongFalsely : Prop := deltaSteadyRow.holds Tryd.pinned (OpenSpec.ofChange deltaSteadyWrong)

/-- 'gaugehousekeep.DeltaBack': WHATEVER THE INPUT: true; the input reads as it did. -/
def deltaBackSpec : ChangeSpec := { name := "deltaBack", fn := fun _ => fun
  | [d] => { results := [.lit (.bool true)], args := [d] }
  | _ => none }
def deltaBackRow : OpenClaim := { program := "ytkcfhfplppdnnaadoor", sum := "fda6d6788aa5aa7904b0133743cc39e9360eed736f62e9e7331f6ed1a078a863", func := "gaugehouse/gaugehousekeep.DeltaBack", spec := "deltaBack", named := ["gaugehouse/delta.widths"], apart := false, laid := [("gaugehouse/delta.widths", laid_gaugehouse_delta_widths)] }
def DeltaBackSaid : Prop := deltaBackRow.holds Tryd.pinned (OpenSpec.ofChange deltaBackSpec)

/-- ITS FALSE NEIGHBOUR: 'it returns false'. Refute it at one input. -/
def deltaBackWrong : ChangeSpec := { name := "deltaBack", fn := fun _ => fun
  | [d] => { results := [.lit (.bool false)], args := [d] }
  | _ => none }
def DeltaBackWrongFalsely : Prop := deltaBackRow.holds Tryd.pinned (OpenSpec.ofChange deltaBackWrong)

/-- 'gaugehousekeep.DeltaOne': WHATEVER THE INPUT: true; the input reads as it did. -/
def deltaOneSpec : ChangeSpec := { name := "deltaOne", fn := fun _ => fun
  | [d] => { results := [.lit (.bool true)], args := [d] }
  | _ => none }
def deltaOneRow : OpenClaim := { program := "ytkcfhfplppdnnaadoor", sum := "fda6d6788aa5aa7904b0133743cc39e9360eed736f62e9e7331f6ed1a078a863", func := "gaugehouse/gaugehousekeep.DeltaOne", spec := "deltaOne", named := ["gaugehouse/delta.widths"], apart := false, laid := [("gaugehouse/delta.widths", laid_gaugehouse_delta_widths)] }
def DeltaOneSaid : Prop := deltaOneRow.holds Tryd.pinned (OpenSpec.ofChange deltaOneSpec)

/-- ITS FALSE NEIGHBOUR: 'it returns false'. Refute it at one input. -/
def deltaOneWrong : ChangeSpec := { name := "deltaOne", fn := fun _ => fun
  | [d] => { results := [.lit (.bool false)], args := [d] }
  | _ => none }
def DeltaOneWrongFalsely : Prop := deltaOneRow.holds Tryd.pinned (OpenSpec.ofChange deltaOneWrong)

/-- 'gaugehousekeep.XorTurned': WHATEVER THE INPUT: true; the input reads as it did. -/
def xorTurnedSpec : ChangeSpec := { name := "xorTurned", fn := fun _ => fun
  | [d1, d2] => { results := [.lit (.bool true)], args := [d1, d2] }
  | _ => none }
def xorTurnedRow : OpenClaim := { program := "ytkcfhfplppdnnaadoor", sum := "fda6d6788aa5aa7904b0133743cc39e9360eed736f62e9e7331f6ed1a078a863", func := "gaugehouse/gaugehousekeep.XorTurned", spec := "xorTurned", unfollowed := true, recurses := true, named := ["math/bits.deBruijn64tab"], apart := false, laid := [("math/bits.deBruijn64tab", laid_math_bits_deBruijn64tab)] }
def XorTurnedSaid : Prop := xorTurnedRow.holds Tryd.pinned (OpenSpec.ofChange xorTurnedSpec)

/-- ITS FALSE NEIGHBOUR: 'it returns false'. Refute it at one input. -/
def xorTurnedWrong : ChangeSpec := { name := "xorTurned", fn := fun _ => fun
  | [d1, d2] => { results := [.lit (.bool false)], args := [d1, d2] }
  | _ => none }
def XorTurnedWrongFalsely : Prop := xorTurnedRow.holds Tryd.pinned (OpenSpec.ofChange xorTurnedWrong)

/-- 'gaugehousekeep.XorSame': WHATEVER THE INPUT: true; the input reads as it did. -/
def xorSameSpec : ChangeSpec := { name := "xorSame", fn := fun _ => fun
  | [d1, d2] => { results := [.lit (.bool true)], args := [d1, d2] }
  | _ => none }
def xorSameRow : OpenClaim := { program := "ytkcfhfplppdnnaadoor", sum := "fda6d6788aa5aa7904b0133743cc39e9360eed736f62e9e7331f6ed1a078a863", func := "gaugehouse/gaugehousekeep.XorSame", spec := "xorSame", named := ["math/bits.deBruijn64tab"], apart := false, laid := [("math/bits.deBruijn64tab", laid_math_bits_deBruijn64tab)] }
def XorSameSaid : Prop := xorSameRow.holds Tryd.pinned (OpenSpec.ofChange xorSameSpec)

/-- ITS FALSE NEIGHBOUR: 'it returns false'. Refute it at one input. -/
def xorSameWrong : ChangeSpec := { name := "xorSame", fn := fun _ => fun
  | [d1, d2] => { results := [.lit (.bool false)], args := [d1, d2] }
  | _ => none }
def XorSameWrongFalsely : Prop := xorSameRow.holds Tryd.pinned (OpenSpec.ofChange xorSameWrong)

/-- 'gaugehousekeep.XorBack': WHATEVER THE INPUT: true; the input reads as it did. -/
def xorBackSpec : ChangeSpec := { name := "xorBack", fn := fun _ => fun
  | [d] => { results := [.lit (.bool true)], args := [d] }
  | _ => none }
def xorBackRow : OpenClaim := { program := "ytkcfhfplppdnnaadoor", sum := "fda6d6788aa5aa7904b0133743cc39e9360eed736f62e9e7331f6ed1a078a863", func := "gaugehouse/gaugehousekeep.XorBack", spec := "xorBack", named := ["math/bits.deBruijn64tab"], apart := false, laid := [("math/bits.deBruijn64tab", laid_math_bits_deBruijn64tab)] }
def XorBackSaid : Prop := xorBackRow.holds Tryd.pinned (OpenSpec.ofChange xorBackSpec)

/-- ITS FALSE NEIGHBOUR: 'it returns false'. Refute it at one input. -/
def xorBackWrong : ChangeSpec := { name := "xorBack", fn := fun _ => fun
  | [d] => { results := [.lit (.bool false)], args := [d] }
  | _ => none }
def XorBackWrongFalsely : Prop := xorBackRow.holds Tryd.pinned (OpenSpec.ofChange xorBackWrong)

/-- 'gaugehousekeep.XorOne': WHATEVER THE INPUT: true; the input reads as it did. -/
def xorOneSpec : ChangeSpec := { name := "xorOne", fn := fun _ => fun
  | [d] => { results := [.lit (.bool true)], args := [d] }
  | _ => none }
def xorOneRow : OpenClaim := { program := "ytkcfhfplppdnnaadoor", sum := "fda6d6788aa5aa7904b0133743cc39e9360eed736f62e9e7331f6ed1a078a863", func := "gaugehouse/gaugehousekeep.XorOne", spec := "xorOne", named := ["math/bits.deBruijn64tab"], apart := false, laid := [("math/bits.deBruijn64tab", laid_math_bits_deBruijn64tab)] }
def XorOneSaid : Prop := xorOneRow.holds Tryd.pinned (OpenSpec.ofChange xorOneSpec)

/-- ITS FALSE NEIGHBOUR: 'it returns false'. Refute it at one input. -/
def xorOneWrong : ChangeSpec := { name := "xorOne", fn := fun _ => fun
  | [d] => { results := [.lit (.bool false)], args := [d] }
  | _ => none }
def XorOneWrongFalsely : Prop := xorOneRow.holds Tryd.pinned (OpenSpec.ofChange xorOneWrong)

/-- 'gaugehousekeep.ChunkBack': WHATEVER THE INPUT: true; the input reads as it did. -/
def chunkBackSpec : ChangeSpec := { name := "chunkBack", fn := fun _ => fun
  | [d] => { results := [.lit (.bool true)], args := [d] }
  | _ => none }
def chunkBackRow : OpenClaim := { program := "ytkcfhfplppdnnaadoor", sum := "fda6d6788aa5aa7904b0133743cc39e9360eed736f62e9e7331f6ed1a078a863", func := "gaugehouse/gaugehousekeep.ChunkBack", spec := "chunkBack", unfollowed := true, recurses := true, named := ["gaugehouse/delta.widths", "math/bits.deBruijn64tab"], apart := false, laid := [("math/bits.deBruijn64tab", laid_math_bits_deBruijn64tab), ("gaugehouse/delta.widths", laid_gaugehouse_delta_widths)] }
def ChunkBackSaid : Prop := chunkBackRow.holds Tryd.pinned (OpenSpec.ofChange chunkBackSpec)

/-- ITS FALSE NEIGHBOUR: 'it returns false'. Refute it at one input. -/
def chunkBackWrong : ChangeSpec := { name := "chunkBack", fn := fun _ => fun
  | [d] => { results := [.lit (.bool false)], args := [d] }
  | _ => none }
def ChunkBackWrongFalsely : Prop := chunkBackRow.holds Tryd.pinned (OpenSpec.ofChange chunkBackWrong)

/-- 'gaugehousekeep.ChunkOne': WHATEVER THE INPUT: true; the input reads as it did. -/
def chunkOneSpec : ChangeSpec := { name := "chunkOne", fn := fun _ => fun
  | [d] => { results := [.lit (.bool true)], args := [d] }
  | _ => none }
def chunkOneRow : OpenClaim := { program := "ytkcfhfplppdnnaadoor", sum := "fda6d6788aa5aa7904b0133743cc39e9360eed736f62e9e7331f6ed1a078a863", func := "gaugehouse/gaugehousekeep.ChunkOne", spec := "chunkOne", unfollowed := true, recurses := true, named := ["gaugehouse/delta.widths", "math/bits.deBruijn64tab"], apart := false, laid := [("math/bits.deBruijn64tab", laid_math_bits_deBruijn64tab), ("gaugehouse/delta.widths", laid_gaugehouse_delta_widths)] }
def ChunkOneSaid : Prop := chunkOneRow.holds Tryd.pinned (OpenSpec.ofChange chunkOneSpec)

/-- ITS FALSE NEIGHBOUR: 'it returns false'. Refute it at one input. -/
def chunkOneWrong : ChangeSpec := { name := "chunkOne", fn := fun _ => fun
  | [d] => { results := [.lit (.bool false)], args := [d] }
  | _ => none }
def ChunkOneWrongFalsely : Prop := chunkOneRow.holds Tryd.pinned (OpenSpec.ofChange chunkOneWrong)

/- THE SECOND FORM. 'bulk': how many values and letters a reading holds, each counted each time it is reached (what is shared counts as often as it is met; a slice's spare places count too). A statement '..UptoSaid' is the law's where the arguments, and the package variables that the reading takes, are together of bulk at most 1048576: NARROWER than '..Said'. Prove '..Said' where nothing that the law and all that it calls make is longer than what came in: it says more and counts as full. Else prove '..UptoSaid'. A law counts once. -/
mutual
def uptoBulk {H : Type} : DataW H → Nat
  | .lit (.string bytes) => bytes.length + 1
  | .lit _ => 1
  | .nil => 1
  | .ptr d => uptoBulk d + 1
  | .slice elems spare => uptoBulkAll elems + uptoBulkAll spare + 1
  | .agg parts => uptoBulkAll parts + 1
  | .iface _ d => uptoBulk d + 1
  | .map entries => uptoBulkEntries entries + 1
  | .held _ => 1
def uptoBulkAll {H : Type} : List (DataW H) → Nat
  | [] => 0
  | d :: r => uptoBulk d + uptoBulkAll r
def uptoBulkEntries {H : Type} : List (Lit × DataW H) → Nat
  | [] => 0
  | x :: r => uptoBulkEntry x + uptoBulkEntries r
def uptoBulkEntry {H : Type} : Lit × DataW H → Nat
  | (.string bytes, d) => bytes.length + uptoBulk d + 1
  | (_, d) => uptoBulk d + 1
 end
def uptoSmall : (H : Type) → List (DataW H) → Bool := fun _ ds => decide (uptoBulkAll ds ≤ 1048576)
def OpenSpec.upto (s : _root_.Go.ChangeSpec) : _root_.Go.OpenSpec := { _root_.Go.OpenSpec.ofChange s with cond := some uptoSmall }

/-- 'gaugehousekeep.DeltaMoved', WHERE WHAT IT READS IS OF BULK AT MOST 1048576: true; the input reads as it did. -/
def deltaMovedUptoRow : OpenClaim := { program := "ytkcfhfplppdnnaadoor", sum := "fda6d6788aa5aa7904b0133743cc39e9360eed736f62e9e7331f6ed1a078a863", func := "gaugehouse/gaugehousekeep.DeltaMoved", spec := "deltaMoved", named := ["gaugehouse/delta.widths"], apart := false, laid := [("gaugehouse/delta.widths", laid_gaugehouse_delta_widths)], narrowed := true }
def DeltaMovedUptoSaid : Prop := deltaMovedUptoRow.holds Tryd.pinned (OpenSpec.upto deltaMovedSpec)

/-- 'gaugehousekeep.DeltaSteady', WHERE WHAT IT READS IS OF BULK AT MOST 1048576: true; the input reads as it did. -/
def deltaSteadyUptoRow : OpenClaim := { program := "ytkcfhfplppdnnaadoor", sum := "fda6d6788aa5aa7904b0133743cc39e9360eed736f62e9e7331f6ed1a078a863", func := "gaugehouse/gaugehousekeep.DeltaSteady", spec := "deltaSteady", unfollowed := true, recurses := true, named := ["gaugehouse/delta.widths"], apart := false, laid := [("gaugehouse/delta.widths", laid_gaugehouse_delta_widths)], narrowed := true }
def DeltaSteadyUptoSaid : Prop := deltaSteadyUptoRow.holds Tryd.pinned (OpenSpec.upto deltaSteadySpec)

/-- 'gaugehousekeep.DeltaBack', WHERE WHAT IT READS IS OF BULK AT MOST 1048576: true; the input reads as it did. -/
def deltaBackUptoRow : OpenClaim := { program := "ytkcfhfplppdnnaadoor", sum := "fda6d6788aa5aa7904b0133743cc39e9360eed736f62e9e7331f6ed1a078a863", func := "gaugehouse/gaugehousekeep.DeltaBack", spec := "deltaBack", named := ["gaugehouse/delta.widths"], apart := false, laid := [("gaugehouse/delta.widths", laid_gaugehouse_delta_widths)], narrowed := true }
def DeltaBackUptoSaid : Prop := deltaBackUptoRow.holds Tryd.pinned (OpenSpec.upto deltaBackSpec)

/-- 'gaugehousekeep.DeltaOne', WHERE WHAT IT READS IS OF BULK AT MOST 1048576: true; the input reads as it did. -/
def deltaOneUptoRow : OpenClaim := { program := "ytkcfhfplppdnnaadoor", sum := "fda6d6788aa5aa7904b0133743cc39e9360eed736f62e9e7331f6ed1a078a863", func := "gaugehouse/gaugehousekeep.DeltaOne", spec := "deltaOne", named := ["gaugehouse/delta.widths"], apart := false, laid := [("gaugehouse/delta.widths", laid_gaugehouse_delta_widths)], narrowed := true }
def DeltaOneUptoSaid : Prop := deltaOneUptoRow.holds Tryd.pinned (OpenSpec.upto deltaOneSpec)

/-- 'gaugehousekeep.XorTurned', WHERE WHAT IT READS IS OF BULK AT MOST 1048576: true; the input reads as it did. -/
def xorTurnedUptoRow : OpenClaim := { program := "ytkcfhfplppdnnaadoor", sum := "fda6d6788aa5aa7904b0133743cc39e9360eed736f62e9e7331f6ed1a078a863", func := "gaugehouse/gaugehousekeep.XorTurned", spec := "xorTurned", unfollowed := true, recurses := true, named := ["math/bits.deBruijn64tab"], apart := false, laid := [("math/bits.deBruijn64tab", laid_math_bits_deBruijn64tab)], narrowed := true }
def XorTurnedUptoSaid : Prop := xorTurnedUptoRow.holds Tryd.pinned (OpenSpec.upto xorTurnedSpec)

/-- 'gaugehousekeep.XorSame', WHERE WHAT IT READS IS OF BULK AT MOST 1048576: true; the input reads as it did. -/
def xorSameUptoRow : OpenClaim := { program := "ytkcfhfplppdnnaadoor", sum := "fda6d6788aa5aa7904b0133743cc39e9360eed736f62e9e7331f6ed1a078a863", func := "gaugehouse/gaugehousekeep.XorSame", spec := "xorSame", named := ["math/bits.deBruijn64tab"], apart := false, laid := [("math/bits.deBruijn64tab", laid_math_bits_deBruijn64tab)], narrowed := true }
def XorSameUptoSaid : Prop := xorSameUptoRow.holds Tryd.pinned (OpenSpec.upto xorSameSpec)

/-- 'gaugehousekeep.XorBack', WHERE WHAT IT READS IS OF BULK AT MOST 1048576: true; the input reads as it did. -/
def xorBackUptoRow : OpenClaim := { program := "ytkcfhfplppdnnaadoor", sum := "fda6d6788aa5aa7904b0133743cc39e9360eed736f62e9e7331f6ed1a078a863", func := "gaugehouse/gaugehousekeep.XorBack", spec := "xorBack", named := ["math/bits.deBruijn64tab"], apart := false, laid := [("math/bits.deBruijn64tab", laid_math_bits_deBruijn64tab)], narrowed := true }
def XorBackUptoSaid : Prop := xorBackUptoRow.holds Tryd.pinned (OpenSpec.upto xorBackSpec)

/-- 'gaugehousekeep.XorOne', WHERE WHAT IT READS IS OF BULK AT MOST 1048576: true; the input reads as it did. -/
def xorOneUptoRow : OpenClaim := { program := "ytkcfhfplppdnnaadoor", sum := "fda6d6788aa5aa7904b0133743cc39e9360eed736f62e9e7331f6ed1a078a863", func := "gaugehouse/gaugehousekeep.XorOne", spec := "xorOne", named := ["math/bits.deBruijn64tab"], apart := false, laid := [("math/bits.deBruijn64tab", laid_math_bits_deBruijn64tab)], narrowed := true }
def XorOneUptoSaid : Prop := xorOneUptoRow.holds Tryd.pinned (OpenSpec.upto xorOneSpec)

/-- 'gaugehousekeep.ChunkBack', WHERE WHAT IT READS IS OF BULK AT MOST 1048576: true; the input reads as it did. -/
def chunkBackUptoRow : OpenClaim := { program := "ytkcfhfplppdnnaadoor", sum := "fda6d6788aa5aa7904b0133743cc39e9360eed736f62e9e7331f6ed1a078a863", func := "gaugehouse/gaugehousekeep.ChunkBack", spec := "chunkBack", unfollowed := true, recurses := true, named := ["gaugehouse/delta.widths", "math/bits.deBruijn64tab"], apart := false, laid := [("math/bits.deBruijn64tab", laid_math_bits_deBruijn64tab), ("gaugehouse/delta.widths", laid_gaugehouse_delta_widths)], narrowed := true }
def ChunkBackUptoSaid : Prop := chunkBackUptoRow.holds Tryd.pinned (OpenSpec.upto chunkBackSpec)

/-- 'gaugehousekeep.ChunkOne', WHERE WHAT IT READS IS OF BULK AT MOST 1048576: true; the input reads as it did. -/
def chunkOneUptoRow : OpenClaim := { program := "ytkcfhfplppdnnaadoor", sum := "fda6d6788aa5aa7904b0133743cc39e9360eed736f62e9e7331f6ed1a078a863", func := "gaugehouse/gaugehousekeep.ChunkOne", spec := "chunkOne", unfollowed := true, recurses := true, named := ["gaugehouse/delta.widths", "math/bits.deBruijn64tab"], apart := false, laid := [("math/bits.deBruijn64tab", laid_math_bits_deBruijn64tab), ("gaugehouse/delta.widths", laid_gaugehouse_delta_widths)], narrowed := true }
def ChunkOneUptoSaid : Prop := chunkOneUptoRow.holds Tryd.pinned (OpenSpec.upto chunkOneSpec)

end Rows
end Go.Proofs.YtkcfhfplppdnnaaDoor
