/-
  NARROWER THAN 'FOR EVERY INPUT', by the rows' own cells (each row's printed sentence says how): HouseAcks: laid · HouseSees: laid · HouseTrue: laid · HouseRing: laid · HouseMends: laid · HouseDown: laid.
  DERIVED. THE GIVEN ROWS OF THIS SEAT. 6 by the template 'for every input the law returns true; each argument reads behind the call as it read before'; 0 by the template 'total and deterministic' (their statements: YtihjgbhnlejhfaaGreatDoorTotals.lean).
  GIVEN WITH THE SEED: the statements are not yours to turn. If you find one false, say at which input.
  Laid BY PROGRAM, IN A SANDBOX (cutbox-rows.mjs): the forced cells as the released guide's own fill.sh prints them over the translation 6f96229303afe270… (all of the seat's roots in one cut). By AI agents, Wed Nov 11 2026. No macro, syntax, notation, axiom, sorry.
-/
import Derived.Test.YtihjgbhnlejhfaaGreatDoorChecked
import GoSem.Claim
import GoSem.ClaimJoined
import GoSem.ClaimMapViews
import Derived.JoinedTies
import Derived.KernelRfl
namespace Go.Proofs.YtihjgbhnlejhfaaGreatDoor
/- THE CELL 'sum', in the pinned program and in every row, IS THE sha256 OF THE DUMP (.gsa) THAT YtihjgbhnlejhfaaGreatDoorProg.lean LOADS. Nothing in Lean hashes anything: it is a label: what it is worth is what the hold of that sum in a sandbox is worth. -/
noncomputable def Tryz.pinned : Pinned := { name := "ytihjgbhnlejhfaagreatdoor", sum := "6f96229303afe2704e6077e07bedf73b4e17726f839f5d2d9e0c10c92921e461", checked := Tryz.checked }
namespace Rows
def none {H : Type} : Left H := { results := [], args := [] }

/- WHAT THE LISTED PACKAGE-LEVEL VARIABLES READ AS WHEN THE CALL BEGINS. Each datum BY PROGRAM (the guide's laid-datum.mjs) off the statement by which the dump's own 'gosem.cut.vars' lays the variable. In a bare row this is a premise. The card (YtihjgbhnlejhfaaGreatDoorCards.lean) ties it to the program's text. -/
def laid_gaugehouse_label_signs {H : Type} : DataW H := .agg [.lit (.string []), .lit (.string [61]), .lit (.string [33, 61]), .lit (.string [61, 94]), .lit (.string [61, 126])]

/-- 'gaugehousekeep.HouseAcks': WHATEVER THE INPUT: true; the input reads as it did. -/
def houseAcksSpec : ChangeSpec := { name := "houseAcks", fn := fun _ => fun
  | [d1, d2, d3, d4, d5, d6] => { results := [.lit (.bool true)], args := [d1, d2, d3, d4, d5, d6] }
  | _ => none }
def houseAcksRow : OpenClaim := { program := "ytihjgbhnlejhfaagreatdoor", sum := "6f96229303afe2704e6077e07bedf73b4e17726f839f5d2d9e0c10c92921e461", func := "gaugehouse/gaugehousekeep.HouseAcks", spec := "houseAcks", inPlace := ["sync/atomic.LoadUint32", "(*internal/sync.Mutex).Lock", "internal/race.Disable", "sync/atomic.CompareAndSwapInt32", "internal/race.Enable", "internal/race.Acquire", "(*internal/sync.Mutex).lockSlow", "internal/sync.runtime_canSpin", "internal/sync.runtime_doSpin", "internal/sync.throw", "internal/sync.runtime_nanotime", "internal/sync.runtime_SemacquireMutex", "sync/atomic.AddInt32", "(*internal/sync.Mutex).Unlock", "internal/race.ReleaseMerge", "(*internal/sync.Mutex).unlockSlow", "internal/sync.fatal", "internal/sync.runtime_Semrelease", "sync/atomic.StoreUint32", "internal/abi.NoEscape", "internal/bytealg.MakeNoZero", "internal/bytealg.IndexByteString", "internal/bytealg.IndexString", "slices.overlaps[gaugehouse/api.Node]", "maps.clone"], unfollowed := true, recurses := true, named := ["gaugehouse/label.signs", "internal/bytealg.MaxLen"], apart := false, laid := [("gaugehouse/label.signs", laid_gaugehouse_label_signs)] }
def HouseAcksSaid : Prop := houseAcksRow.holds Tryz.pinned (OpenSpec.ofChange houseAcksSpec)

/-- ITS FALSE NEIGHBOUR: 'it returns false'. Refute it at one input. -/
def houseAcksWrong : ChangeSpec := { name := "houseAcks", fn := fun _ => fun
  | [d1, d2, d3, d4, d5, d6] => { results := [.lit (.bool false)], args := [d1, d2, d3, d4, d5, d6] }
  | _ => none }
def HouseAcksWrongFalsely : Prop := houseAcksRow.holds Tryz.pinned (OpenSpec.ofChange houseAcksWrong)

/-- 'gaugehousekeep.HouseSees': WHATEVER THE INPUT: true; the input reads as it did. -/
def houseSeesSpec : ChangeSpec := { name := "houseSees", fn := fun _ => fun
  | [d1, d2, d3, d4, d5, d6] => { results := [.lit (.bool true)], args := [d1, d2, d3, d4, d5, d6] }
  | _ => none }
def houseSeesRow : OpenClaim := { program := "ytihjgbhnlejhfaagreatdoor", sum := "6f96229303afe2704e6077e07bedf73b4e17726f839f5d2d9e0c10c92921e461", func := "gaugehouse/gaugehousekeep.HouseSees", spec := "houseSees", inPlace := ["sync/atomic.LoadUint32", "(*internal/sync.Mutex).Lock", "internal/race.Disable", "sync/atomic.CompareAndSwapInt32", "internal/race.Enable", "internal/race.Acquire", "(*internal/sync.Mutex).lockSlow", "internal/sync.runtime_canSpin", "internal/sync.runtime_doSpin", "internal/sync.throw", "internal/sync.runtime_nanotime", "internal/sync.runtime_SemacquireMutex", "sync/atomic.AddInt32", "(*internal/sync.Mutex).Unlock", "internal/race.ReleaseMerge", "(*internal/sync.Mutex).unlockSlow", "internal/sync.fatal", "internal/sync.runtime_Semrelease", "sync/atomic.StoreUint32", "internal/abi.NoEscape", "internal/bytealg.MakeNoZero", "internal/bytealg.IndexByteString", "internal/bytealg.IndexString", "slices.overlaps[gaugehouse/api.Node]", "maps.clone"], unfollowed := true, recurses := true, named := ["gaugehouse/label.signs", "internal/bytealg.MaxLen"], apart := false, laid := [("gaugehouse/label.signs", laid_gaugehouse_label_signs)] }
def HouseSeesSaid : Prop := houseSeesRow.holds Tryz.pinned (OpenSpec.ofChange houseSeesSpec)

/-- ITS FALSE NEIGHBOUR: 'it returns false'. Refute it at one input. -/
def houseSeesWrong : ChangeSpec := { name := "houseSees", fn := fun _ => fun
  | [d1, d2, d3, d4, d5, d6] => { results := [.lit (.bool false)], args := [d1, d2, d3, d4, d5, d6] }
  | _ => none }
def HouseSeesWrongFalsely : Prop := houseSeesRow.holds Tryz.pinned (OpenSpec.ofChange houseSeesWrong)

/-- 'gaugehousekeep.HouseTrue': WHATEVER THE INPUT: true; the input reads as it did. -/
def houseTrueSpec : ChangeSpec := { name := "houseTrue", fn := fun _ => fun
  | [d1, d2, d3, d4, d5, d6] => { results := [.lit (.bool true)], args := [d1, d2, d3, d4, d5, d6] }
  | _ => none }
def houseTrueRow : OpenClaim := { program := "ytihjgbhnlejhfaagreatdoor", sum := "6f96229303afe2704e6077e07bedf73b4e17726f839f5d2d9e0c10c92921e461", func := "gaugehouse/gaugehousekeep.HouseTrue", spec := "houseTrue", inPlace := ["sync/atomic.LoadUint32", "(*internal/sync.Mutex).Lock", "internal/race.Disable", "sync/atomic.CompareAndSwapInt32", "internal/race.Enable", "internal/race.Acquire", "(*internal/sync.Mutex).lockSlow", "internal/sync.runtime_canSpin", "internal/sync.runtime_doSpin", "internal/sync.throw", "internal/sync.runtime_nanotime", "internal/sync.runtime_SemacquireMutex", "sync/atomic.AddInt32", "(*internal/sync.Mutex).Unlock", "internal/race.ReleaseMerge", "(*internal/sync.Mutex).unlockSlow", "internal/sync.fatal", "internal/sync.runtime_Semrelease", "sync/atomic.StoreUint32", "internal/abi.NoEscape", "internal/bytealg.MakeNoZero", "internal/bytealg.IndexByteString", "internal/bytealg.IndexString", "slices.overlaps[gaugehouse/api.Node]", "maps.clone"], unfollowed := true, recurses := true, named := ["gaugehouse/label.signs", "internal/bytealg.MaxLen"], apart := false, laid := [("gaugehouse/label.signs", laid_gaugehouse_label_signs)] }
def HouseTrueSaid : Prop := houseTrueRow.holds Tryz.pinned (OpenSpec.ofChange houseTrueSpec)

/-- ITS FALSE NEIGHBOUR: 'it returns false'. Refute it at one input. -/
def houseTrueWrong : ChangeSpec := { name := "houseTrue", fn := fun _ => fun
  | [d1, d2, d3, d4, d5, d6] => { results := [.lit (.bool false)], args := [d1, d2, d3, d4, d5, d6] }
  | _ => none }
def HouseTrueWrongFalsely : Prop := houseTrueRow.holds Tryz.pinned (OpenSpec.ofChange houseTrueWrong)

/-- 'gaugehousekeep.HouseRing': WHATEVER THE INPUT: true; the input reads as it did. -/
def houseRingSpec : ChangeSpec := { name := "houseRing", fn := fun _ => fun
  | [d1, d2, d3, d4, d5] => { results := [.lit (.bool true)], args := [d1, d2, d3, d4, d5] }
  | _ => none }
def houseRingRow : OpenClaim := { program := "ytihjgbhnlejhfaagreatdoor", sum := "6f96229303afe2704e6077e07bedf73b4e17726f839f5d2d9e0c10c92921e461", func := "gaugehouse/gaugehousekeep.HouseRing", spec := "houseRing", inPlace := ["sync/atomic.LoadUint32", "(*internal/sync.Mutex).Lock", "internal/race.Disable", "sync/atomic.CompareAndSwapInt32", "internal/race.Enable", "internal/race.Acquire", "(*internal/sync.Mutex).lockSlow", "internal/sync.runtime_canSpin", "internal/sync.runtime_doSpin", "internal/sync.throw", "internal/sync.runtime_nanotime", "internal/sync.runtime_SemacquireMutex", "sync/atomic.AddInt32", "(*internal/sync.Mutex).Unlock", "internal/race.ReleaseMerge", "(*internal/sync.Mutex).unlockSlow", "internal/sync.fatal", "internal/sync.runtime_Semrelease", "sync/atomic.StoreUint32", "internal/abi.NoEscape", "internal/bytealg.MakeNoZero", "internal/bytealg.IndexByteString", "internal/bytealg.IndexString", "slices.overlaps[gaugehouse/api.Node]", "maps.clone"], unfollowed := true, recurses := true, named := ["gaugehouse/label.signs", "internal/bytealg.MaxLen"], apart := false, laid := [("gaugehouse/label.signs", laid_gaugehouse_label_signs)] }
def HouseRingSaid : Prop := houseRingRow.holds Tryz.pinned (OpenSpec.ofChange houseRingSpec)

/-- ITS FALSE NEIGHBOUR: 'it returns false'. Refute it at one input. -/
def houseRingWrong : ChangeSpec := { name := "houseRing", fn := fun _ => fun
  | [d1, d2, d3, d4, d5] => { results := [.lit (.bool false)], args := [d1, d2, d3, d4, d5] }
  | _ => none }
def HouseRingWrongFalsely : Prop := houseRingRow.holds Tryz.pinned (OpenSpec.ofChange houseRingWrong)

/-- 'gaugehousekeep.HouseMends': WHATEVER THE INPUT: true; the input reads as it did. -/
def houseMendsSpec : ChangeSpec := { name := "houseMends", fn := fun _ => fun
  | [d1, d2, d3, d4, d5, d6] => { results := [.lit (.bool true)], args := [d1, d2, d3, d4, d5, d6] }
  | _ => none }
def houseMendsRow : OpenClaim := { program := "ytihjgbhnlejhfaagreatdoor", sum := "6f96229303afe2704e6077e07bedf73b4e17726f839f5d2d9e0c10c92921e461", func := "gaugehouse/gaugehousekeep.HouseMends", spec := "houseMends", inPlace := ["sync/atomic.LoadUint32", "(*internal/sync.Mutex).Lock", "internal/race.Disable", "sync/atomic.CompareAndSwapInt32", "internal/race.Enable", "internal/race.Acquire", "(*internal/sync.Mutex).lockSlow", "internal/sync.runtime_canSpin", "internal/sync.runtime_doSpin", "internal/sync.throw", "internal/sync.runtime_nanotime", "internal/sync.runtime_SemacquireMutex", "sync/atomic.AddInt32", "(*internal/sync.Mutex).Unlock", "internal/race.ReleaseMerge", "(*internal/sync.Mutex).unlockSlow", "internal/sync.fatal", "internal/sync.runtime_Semrelease", "sync/atomic.StoreUint32", "internal/abi.NoEscape", "internal/bytealg.MakeNoZero", "internal/bytealg.IndexByteString", "internal/bytealg.IndexString", "slices.overlaps[gaugehouse/api.Node]", "maps.clone"], unfollowed := true, recurses := true, named := ["gaugehouse/label.signs", "internal/bytealg.MaxLen"], apart := false, laid := [("gaugehouse/label.signs", laid_gaugehouse_label_signs)] }
def HouseMendsSaid : Prop := houseMendsRow.holds Tryz.pinned (OpenSpec.ofChange houseMendsSpec)

/-- ITS FALSE NEIGHBOUR: 'it returns false'. Refute it at one input. -/
def houseMendsWrong : ChangeSpec := { name := "houseMends", fn := fun _ => fun
  | [d1, d2, d3, d4, d5, d6] => { results := [.lit (.bool false)], args := [d1, d2, d3, d4, d5, d6] }
  | _ => none }
def HouseMendsWrongFalsely : Prop := houseMendsRow.holds Tryz.pinned (OpenSpec.ofChange houseMendsWrong)

/-- 'gaugehousekeep.HouseDown': WHATEVER THE INPUT: true; the input reads as it did. -/
def houseDownSpec : ChangeSpec := { name := "houseDown", fn := fun _ => fun
  | [d1, d2, d3, d4, d5, d6] => { results := [.lit (.bool true)], args := [d1, d2, d3, d4, d5, d6] }
  | _ => none }
def houseDownRow : OpenClaim := { program := "ytihjgbhnlejhfaagreatdoor", sum := "6f96229303afe2704e6077e07bedf73b4e17726f839f5d2d9e0c10c92921e461", func := "gaugehouse/gaugehousekeep.HouseDown", spec := "houseDown", inPlace := ["sync/atomic.LoadUint32", "(*internal/sync.Mutex).Lock", "internal/race.Disable", "sync/atomic.CompareAndSwapInt32", "internal/race.Enable", "internal/race.Acquire", "(*internal/sync.Mutex).lockSlow", "internal/sync.runtime_canSpin", "internal/sync.runtime_doSpin", "internal/sync.throw", "internal/sync.runtime_nanotime", "internal/sync.runtime_SemacquireMutex", "sync/atomic.AddInt32", "(*internal/sync.Mutex).Unlock", "internal/race.ReleaseMerge", "(*internal/sync.Mutex).unlockSlow", "internal/sync.fatal", "internal/sync.runtime_Semrelease", "sync/atomic.StoreUint32", "internal/abi.NoEscape", "internal/bytealg.MakeNoZero", "internal/bytealg.IndexByteString", "internal/bytealg.IndexString", "slices.overlaps[gaugehouse/api.Node]", "maps.clone"], unfollowed := true, recurses := true, named := ["gaugehouse/label.signs", "internal/bytealg.MaxLen"], apart := false, laid := [("gaugehouse/label.signs", laid_gaugehouse_label_signs)] }
def HouseDownSaid : Prop := houseDownRow.holds Tryz.pinned (OpenSpec.ofChange houseDownSpec)

/-- ITS FALSE NEIGHBOUR: 'it returns false'. Refute it at one input. -/
def houseDownWrong : ChangeSpec := { name := "houseDown", fn := fun _ => fun
  | [d1, d2, d3, d4, d5, d6] => { results := [.lit (.bool false)], args := [d1, d2, d3, d4, d5, d6] }
  | _ => none }
def HouseDownWrongFalsely : Prop := houseDownRow.holds Tryz.pinned (OpenSpec.ofChange houseDownWrong)

/- THE SECOND FORM. 'bulk': how many values and letters a reading holds, each counted each time it is reached (what is shared counts as often as it is met; a slice's spare places count too). A statement '..UptoSaid' is the law's where the arguments, and the package variables that the reading takes, are together of bulk at most 1048576: NARROWER than '..Said'. Prove '..Said' where nothing that the law and all that it calls make is longer than what came in: it says more and counts as full. Else prove '..UptoSaid'. A law counts once. -/
mutual
def uptoBulk {H : Type} : DataW H → Nat
  | .lit (.string bytes) => bytes.length + 1
  | .lit _ => 1
  | .nil => 1
  | .ptr d => uptoBulk d + 1
  | .slice elems spare => uptoBulkAll elems + uptoBulkAll spare + 1
  | .agg parts => uptoBulkAll parts + 1
  | .iface _ d => uptoBulk d + 1
  | .map entries => uptoBulkEntries entries + 1
  | .held _ => 1
def uptoBulkAll {H : Type} : List (DataW H) → Nat
  | [] => 0
  | d :: r => uptoBulk d + uptoBulkAll r
def uptoBulkEntries {H : Type} : List (Lit × DataW H) → Nat
  | [] => 0
  | x :: r => uptoBulkEntry x + uptoBulkEntries r
def uptoBulkEntry {H : Type} : Lit × DataW H → Nat
  | (.string bytes, d) => bytes.length + uptoBulk d + 1
  | (_, d) => uptoBulk d + 1
 end
def uptoSmall : (H : Type) → List (DataW H) → Bool := fun _ ds => decide (uptoBulkAll ds ≤ 1048576)
def OpenSpec.upto (s : _root_.Go.ChangeSpec) : _root_.Go.OpenSpec := { _root_.Go.OpenSpec.ofChange s with cond := some uptoSmall }

/-- 'gaugehousekeep.HouseAcks', WHERE WHAT IT READS IS OF BULK AT MOST 1048576: true; the input reads as it did. -/
def houseAcksUptoRow : OpenClaim := { program := "ytihjgbhnlejhfaagreatdoor", sum := "6f96229303afe2704e6077e07bedf73b4e17726f839f5d2d9e0c10c92921e461", func := "gaugehouse/gaugehousekeep.HouseAcks", spec := "houseAcks", inPlace := ["sync/atomic.LoadUint32", "(*internal/sync.Mutex).Lock", "internal/race.Disable", "sync/atomic.CompareAndSwapInt32", "internal/race.Enable", "internal/race.Acquire", "(*internal/sync.Mutex).lockSlow", "internal/sync.runtime_canSpin", "internal/sync.runtime_doSpin", "internal/sync.throw", "internal/sync.runtime_nanotime", "internal/sync.runtime_SemacquireMutex", "sync/atomic.AddInt32", "(*internal/sync.Mutex).Unlock", "internal/race.ReleaseMerge", "(*internal/sync.Mutex).unlockSlow", "internal/sync.fatal", "internal/sync.runtime_Semrelease", "sync/atomic.StoreUint32", "internal/abi.NoEscape", "internal/bytealg.MakeNoZero", "internal/bytealg.IndexByteString", "internal/bytealg.IndexString", "slices.overlaps[gaugehouse/api.Node]", "maps.clone"], unfollowed := true, recurses := true, named := ["gaugehouse/label.signs", "internal/bytealg.MaxLen"], apart := false, laid := [("gaugehouse/label.signs", laid_gaugehouse_label_signs)], narrowed := true }
def HouseAcksUptoSaid : Prop := houseAcksUptoRow.holds Tryz.pinned (OpenSpec.upto houseAcksSpec)

/-- 'gaugehousekeep.HouseSees', WHERE WHAT IT READS IS OF BULK AT MOST 1048576: true; the input reads as it did. -/
def houseSeesUptoRow : OpenClaim := { program := "ytihjgbhnlejhfaagreatdoor", sum := "6f96229303afe2704e6077e07bedf73b4e17726f839f5d2d9e0c10c92921e461", func := "gaugehouse/gaugehousekeep.HouseSees", spec := "houseSees", inPlace := ["sync/atomic.LoadUint32", "(*internal/sync.Mutex).Lock", "internal/race.Disable", "sync/atomic.CompareAndSwapInt32", "internal/race.Enable", "internal/race.Acquire", "(*internal/sync.Mutex).lockSlow", "internal/sync.runtime_canSpin", "internal/sync.runtime_doSpin", "internal/sync.throw", "internal/sync.runtime_nanotime", "internal/sync.runtime_SemacquireMutex", "sync/atomic.AddInt32", "(*internal/sync.Mutex).Unlock", "internal/race.ReleaseMerge", "(*internal/sync.Mutex).unlockSlow", "internal/sync.fatal", "internal/sync.runtime_Semrelease", "sync/atomic.StoreUint32", "internal/abi.NoEscape", "internal/bytealg.MakeNoZero", "internal/bytealg.IndexByteString", "internal/bytealg.IndexString", "slices.overlaps[gaugehouse/api.Node]", "maps.clone"], unfollowed := true, recurses := true, named := ["gaugehouse/label.signs", "internal/bytealg.MaxLen"], apart := false, laid := [("gaugehouse/label.signs", laid_gaugehouse_label_signs)], narrowed := true }
def HouseSeesUptoSaid : Prop := houseSeesUptoRow.holds Tryz.pinned (OpenSpec.upto houseSeesSpec)

/-- 'gaugehousekeep.HouseTrue', WHERE WHAT IT READS IS OF BULK AT MOST 1048576: true; the input reads as it did. -/
def houseTrueUptoRow : OpenClaim := { program := "ytihjgbhnlejhfaagreatdoor", sum := "6f96229303afe2704e6077e07bedf73b4e17726f839f5d2d9e0c10c92921e461", func := "gaugehouse/gaugehousekeep.HouseTrue", spec := "houseTrue", inPlace := ["sync/atomic.LoadUint32", "(*internal/sync.Mutex).Lock", "internal/race.Disable", "sync/atomic.CompareAndSwapInt32", "internal/race.Enable", "internal/race.Acquire", "(*internal/sync.Mutex).lockSlow", "internal/sync.runtime_canSpin", "internal/sync.runtime_doSpin", "internal/sync.throw", "internal/sync.runtime_nanotime", "internal/sync.runtime_SemacquireMutex", "sync/atomic.AddInt32", "(*internal/sync.Mutex).Unlock", "internal/race.ReleaseMerge", "(*internal/sync.Mutex).unlockSlow", "internal/sync.fatal", "internal/sync.runtime_Semrelease", "sync/atomic.StoreUint32", "internal/abi.NoEscape", "internal/bytealg.MakeNoZero", "internal/bytealg.IndexByteString", "internal/bytealg.IndexString", "slices.overlaps[gaugehouse/api.Node]", "maps.clone"], unfollowed := true, recurses := true, named := ["gaugehouse/label.signs", "internal/bytealg.MaxLen"], apart := false, laid := [("gaugehouse/label.signs", laid_gaugehouse_label_signs)], narrowed := true }
def HouseTrueUptoSaid : Prop := houseTrueUptoRow.holds Tryz.pinned (OpenSpec.upto houseTrueSpec)

/-- 'gaugehousekeep.HouseRing', WHERE WHAT IT READS IS OF BULK AT MOST 1048576: true; the input reads as it did. -/
def houseRingUptoRow : OpenClaim := { program := "ytihjgbhnlejhfaagreatdoor", sum := "6f96229303afe2704e6077e07bedf73b4e17726f839f5d2d9e0c10c92921e461", func := "gaugehouse/gaugehousekeep.HouseRing", spec := "houseRing", inPlace := ["sync/atomic.LoadUint32", "(*internal/sync.Mutex).Lock", "internal/race.Disable", "sync/atomic.CompareAndSwapInt32", "internal/race.Enable", "internal/race.Acquire", "(*internal/sync.Mutex).lockSlow", "internal/sync.runtime_canSpin", "internal/sync.runtime_doSpin", "internal/sync.throw", "internal/sync.runtime_nanotime", "internal/sync.runtime_SemacquireMutex", "sync/atomic.AddInt32", "(*internal/sync.Mutex).Unlock", "internal/race.ReleaseMerge", "(*internal/sync.Mutex).unlockSlow", "internal/sync.fatal", "internal/sync.runtime_Semrelease", "sync/atomic.StoreUint32", "internal/abi.NoEscape", "internal/bytealg.MakeNoZero", "internal/bytealg.IndexByteString", "internal/bytealg.IndexString", "slices.overlaps[gaugehouse/api.Node]", "maps.clone"], unfollowed := true, recurses := true, named := ["gaugehouse/label.signs", "internal/bytealg.MaxLen"], apart := false, laid := [("gaugehouse/label.signs", laid_gaugehouse_label_signs)], narrowed := true }
def HouseRingUptoSaid : Prop := houseRingUptoRow.holds Tryz.pinned (OpenSpec.upto houseRingSpec)

/-- 'gaugehousekeep.HouseMends', WHERE WHAT IT READS IS OF BULK AT MOST 1048576: true; the input reads as it did. -/
def houseMendsUptoRow : OpenClaim := { program := "ytihjgbhnlejhfaagreatdoor", sum := "6f96229303afe2704e6077e07bedf73b4e17726f839f5d2d9e0c10c92921e461", func := "gaugehouse/gaugehousekeep.HouseMends", spec := "houseMends", inPlace := ["sync/atomic.LoadUint32", "(*internal/sync.Mutex).Lock", "internal/race.Disable", "sync/atomic.CompareAndSwapInt32", "internal/race.Enable", "internal/race.Acquire", "(*internal/sync.Mutex).lockSlow", "internal/sync.runtime_canSpin", "internal/sync.runtime_doSpin", "internal/sync.throw", "internal/sync.runtime_nanotime", "internal/sync.runtime_SemacquireMutex", "sync/atomic.AddInt32", "(*internal/sync.Mutex).Unlock", "internal/race.ReleaseMerge", "(*internal/sync.Mutex).unlockSlow", "internal/sync.fatal", "internal/sync.runtime_Semrelease", "sync/atomic.StoreUint32", "internal/abi.NoEscape", "internal/bytealg.MakeNoZero", "internal/bytealg.IndexByteString", "internal/bytealg.IndexString", "slices.overlaps[gaugehouse/api.Node]", "maps.clone"], unfollowed := true, recurses := true, named := ["gaugehouse/label.signs", "internal/bytealg.MaxLen"], apart := false, laid := [("gaugehouse/label.signs", laid_gaugehouse_label_signs)], narrowed := true }
def HouseMendsUptoSaid : Prop := houseMendsUptoRow.holds Tryz.pinned (OpenSpec.upto houseMendsSpec)

/-- 'gaugehousekeep.HouseDown', WHERE WHAT IT READS IS OF BULK AT MOST 1048576: true; the input reads as it did. -/
def houseDownUptoRow : OpenClaim := { program := "ytihjgbhnlejhfaagreatdoor", sum := "6f96229303afe2704e6077e07bedf73b4e17726f839f5d2d9e0c10c92921e461", func := "gaugehouse/gaugehousekeep.HouseDown", spec := "houseDown", inPlace := ["sync/atomic.LoadUint32", "(*internal/sync.Mutex).Lock", "internal/race.Disable", "sync/atomic.CompareAndSwapInt32", "internal/race.Enable", "internal/race.Acquire", "(*internal/sync.Mutex).lockSlow", "internal/sync.runtime_canSpin", "internal/sync.runtime_doSpin", "internal/sync.throw", "internal/sync.runtime_nanotime", "internal/sync.runtime_SemacquireMutex", "sync/atomic.AddInt32", "(*internal/sync.Mutex).Unlock", "internal/race.ReleaseMerge", "(*internal/sync.Mutex).unlockSlow", "internal/sync.fatal", "internal/sync.runtime_Semrelease", "sync/atomic.StoreUint32", "internal/abi.NoEscape", "internal/bytealg.MakeNoZero", "internal/bytealg.IndexByteString", "internal/bytealg.IndexString", "slices.overlaps[gaugehouse/api.Node]", "maps.clone"], unfollowed := true, recurses := true, named := ["gaugehouse/label.signs", "internal/bytealg.MaxLen"], apart := false, laid := [("gaugehouse/label.signs", laid_gaugehouse_label_signs)], narrowed := true }
def HouseDownUptoSaid : Prop := houseDownUptoRow.holds Tryz.pinned (OpenSpec.upto houseDownSpec)

end Rows
end Go.Proofs.YtihjgbhnlejhfaaGreatDoor
