/- The contract of slices.Compact at int64, laid off the kit's shelf in plain words (by the kit's lay-plain.mjs). Conditions: the row lies in its cells. -/
import Derived.Shelf.SlGeneric
import Derived.Shelf.SlicesG.CompactI
import Derived.Ground.SlgnProg
import Derived.Test.YtnppgocedokioaaProg
namespace Go.Proofs
open Go.Shelf
def Try.laysCmp_ren : Go.Shelf.Ren := ⟨fun | 43 => 26 | n => n, fun | 22 => 45 | 23 => 2 | 3 => 3 | 4 => 4 | 0 => 0 | n => n, fun | n => n⟩
theorem Try.laysCmp : Go.Proofs.SlLaysN.n43 Try.prog Try.laysCmp_ren := {
  mixed := by kernel_rfl
  f43 := ⟨Try.f26.name, by decide, Try.func26.trans (congrArg some (by kernel_rfl))⟩
  t0 := Try.underlying0
  a0 := Try.isAgg0
  z0 := Try.sizeOf0
  v0 := Try.zeroValue0
  t3 := Try.underlying3
  a3 := Try.isAgg3
  z3 := Try.sizeOf3
  v3 := Try.zeroValue3
  t4 := Try.underlying4
  a4 := Try.isAgg4
  z4 := Try.sizeOf4
  v4 := Try.zeroValue4
  t22 := Try.underlying45
  a22 := Try.isAgg45
  z22 := Try.sizeOf45
  v22 := Try.zeroValue45
  t23 := Try.underlying2
  a23 := Try.isAgg2
  z23 := Try.sizeOf2
  v23 := Try.zeroValue2
  i23 := by kernel_rfl }
open Go.Sort Go.RowKit Go.Lib in
theorem Try.slices_Compact_i64 (blk off cap : Nat) (zs : List Int) (w : World) (hH : Holds (Value.int .i64) w blk off zs.toArray) (hsz : zs.length ≤ 9223372036854775807) (hcap : zs.length ≤ cap) :
    Calls Try.prog 26 #[.slice (some ⟨blk, off, none⟩) zs.length cap] w fun e w' => e = .returned (.slice (some ⟨blk, off, none⟩) (Lib.compact zs).length cap) ∧ ∃ q, w' = putRow (Value.int .i64) (Sort.ahead w q) blk off (Lib.compact zs ++ List.replicate (zs.length - (Lib.compact zs).length) 0).toArray := AnyG.slices_Compact_int Try.laysCmp blk off cap zs w hH hsz hcap
theorem Try.slices_Compact_i64_empty (a : Option Addr) (cap : Nat) (w : World) :
    Calls Try.prog 26 #[.slice a 0 cap] w fun e w' => e = .returned (.slice a 0 cap) ∧ w' = w := AnyG.slices_Compact_int_empty Try.laysCmp a cap w
end Go.Proofs
