/- Contracts of slices.Sort at string, laid off the kit's shelf in plain words (by the kit's lay-plain.mjs). Conditions: rows lie in their cells. -/
import Derived.Shelf.Sort.Plain
import Derived.Ground.Names2Prog
import Derived.Shelf.Slices.In.SortNone
import Derived.Test.YtmfndpkhcejffaaProg
namespace Go.Proofs
open Go.Shelf
def Try.lays190_ren : Go.Shelf.Ren := ⟨fun | 190 => 31 | 125 => 47 | 258 => 46 | 128 => 62 | 129 => 63 | 302 => 53 | 303 => 54 | 304 => 55 | 305 => 56 | 306 => 57 | 307 => 58 | 308 => 59 | 309 => 60 | 310 => 61 | 333 => 73 | 329 => 74 | 330 => 75 | 334 => 76 | 335 => 77 | 336 => 78 | 344 => 86 | n => n, fun | 31 => 40 | 9 => 9 | 3 => 3 | 46 => 81 | 0 => 0 | 51 => 98 | 53 => 100 | 4 => 4 | 183 => 92 | 182 => 91 | 131 => 66 | 5 => 5 | 218 => 106 | 222 => 110 | 228 => 116 | 229 => 117 | n => n, fun | n => n⟩
theorem Try.lays190 : Go.Proofs.Lays.n190 Try.prog Try.lays190_ren := {
  mixed := by kernel_rfl
  f125 := Try.func47.trans (congrArg some (by kernel_rfl))
  f128 := Try.func62.trans (congrArg some (by kernel_rfl))
  f129 := Try.func63.trans (congrArg some (by kernel_rfl))
  f190 := Try.func31.trans (congrArg some (by kernel_rfl))
  f258 := Try.func46.trans (congrArg some (by kernel_rfl))
  f302 := Try.func53.trans (congrArg some (by kernel_rfl))
  f303 := Try.func54.trans (congrArg some (by kernel_rfl))
  f304 := Try.func55.trans (congrArg some (by kernel_rfl))
  f305 := Try.func56.trans (congrArg some (by kernel_rfl))
  f306 := Try.func57.trans (congrArg some (by kernel_rfl))
  f307 := Try.func58.trans (congrArg some (by kernel_rfl))
  f308 := Try.func59.trans (congrArg some (by kernel_rfl))
  f309 := Try.func60.trans (congrArg some (by kernel_rfl))
  f310 := Try.func61.trans (congrArg some (by kernel_rfl))
  f329 := Try.func74.trans (congrArg some (by kernel_rfl))
  f330 := Try.func75.trans (congrArg some (by kernel_rfl))
  f333 := Try.func73.trans (congrArg some (by kernel_rfl))
  f334 := Try.func76.trans (congrArg some (by kernel_rfl))
  f335 := Try.func77.trans (congrArg some (by kernel_rfl))
  f336 := Try.func78.trans (congrArg some (by kernel_rfl))
  f344 := Try.func86.trans (congrArg some (by kernel_rfl))
  t0 := Try.underlying0
  a0 := Try.isAgg0
  z0 := Try.sizeOf0
  v0 := Try.zeroValue0
  t3 := Try.underlying3
  a3 := Try.isAgg3
  z3 := Try.sizeOf3
  v3 := Try.zeroValue3
  t4 := Try.underlying4
  a4 := Try.isAgg4
  z4 := Try.sizeOf4
  v4 := Try.zeroValue4
  t5 := Try.underlying5
  a5 := Try.isAgg5
  z5 := Try.sizeOf5
  v5 := Try.zeroValue5
  t9 := Try.underlying9
  a9 := Try.isAgg9
  z9 := Try.sizeOf9
  v9 := Try.zeroValue9
  t31 := Try.underlying40
  a31 := Try.isAgg40
  z31 := Try.sizeOf40
  v31 := Try.zeroValue40
  t46 := Try.underlying81
  a46 := Try.isAgg81
  z46 := Try.sizeOf81
  v46 := Try.zeroValue81
  t51 := Try.underlying98
  a51 := Try.isAgg98
  z51 := Try.sizeOf98
  v51 := Try.zeroValue98
  t53 := Try.underlying100
  a53 := Try.isAgg100
  z53 := Try.sizeOf100
  v53 := Try.zeroValue100
  t131 := Try.underlying66
  a131 := Try.isAgg66
  z131 := Try.sizeOf66
  v131 := Try.zeroValue66
  t182 := Try.underlying91
  a182 := Try.isAgg91
  z182 := Try.sizeOf91
  v182 := Try.zeroValue91
  t183 := Try.underlying92
  a183 := Try.isAgg92
  z183 := Try.sizeOf92
  v183 := Try.zeroValue92
  t218 := Try.underlying106
  a218 := Try.isAgg106
  z218 := Try.sizeOf106
  v218 := Try.zeroValue106
  t222 := Try.underlying110
  a222 := Try.isAgg110
  z222 := Try.sizeOf110
  v222 := Try.zeroValue110
  t228 := Try.underlying116
  a228 := Try.isAgg116
  z228 := Try.sizeOf116
  v228 := Try.zeroValue116
  t229 := Try.underlying117
  a229 := Try.isAgg117
  z229 := Try.sizeOf117
  v229 := Try.zeroValue117 }
open Go.Sort Go.RowKit in
theorem Try.slices_Sort_string (blk off cap : Nat) (ss : List (List UInt8)) (w : World) (hH : Holds encStr w blk off ss.toArray) (hblk : blk < w.heap.size) (hsz : ss.length < 4611686018427387904) :
    Calls Try.prog 31 #[.slice (some ⟨blk, off, none⟩) ss.length cap] w fun e w' =>
      e = .returned (.tuple #[]) ∧ ∃ n os, w' = grow (putRow encStr (Sort.ahead w n) blk off (ss.mergeSort fun x y => decide (x ≤ y)).toArray) os := Any.slices_Sort_string Try.lays190 blk off cap ss w hH hblk hsz
open Go.RowKit Go.Sort in
theorem Try.slices_Sort_string_none (p : Option Addr) (cap : Nat) (w : World) :
    Calls Try.prog 31 #[.slice p 0 cap] w fun e w' => e = .returned (.tuple #[]) ∧ w' = w := Any.slices_Sort_string_none Try.lays190 p cap w
end Go.Proofs
