/- Texts of the proof of StoreKeeps, joined (by merge.py). Conditions: each theorem's own hypotheses. -/
import Derived.Shelf.Sort.Plain
import Derived.Ground.Names2Prog
import Derived.Shelf.Slices.In.SortNone
import Derived.Test.YtdnlnkbnfiamiaaGreatDoorProg
namespace Go.Proofs
open Go.Shelf
def Tryz.lays190_ren : Go.Shelf.Ren := ⟨fun | 190 => 55 | 125 => 67 | 258 => 66 | 128 => 86 | 129 => 87 | 302 => 77 | 303 => 78 | 304 => 79 | 305 => 80 | 306 => 81 | 307 => 82 | 308 => 83 | 309 => 84 | 310 => 85 | 333 => 101 | 329 => 102 | 330 => 103 | 334 => 104 | 335 => 105 | 336 => 106 | 344 => 116 | n => n, fun | 31 => 62 | 9 => 9 | 3 => 3 | 46 => 110 | 0 => 0 | 51 => 144 | 53 => 88 | 4 => 4 | 183 => 136 | 182 => 135 | 131 => 141 | 5 => 5 | 218 => 163 | 222 => 167 | 228 => 192 | 229 => 193 | n => n, fun | n => n⟩
theorem Tryz.lays190 : Go.Proofs.Lays.n190 Tryz.prog Tryz.lays190_ren := {
  mixed := by kernel_rfl
  f125 := Tryz.func67.trans (congrArg some (by kernel_rfl))
  f128 := Tryz.func86.trans (congrArg some (by kernel_rfl))
  f129 := Tryz.func87.trans (congrArg some (by kernel_rfl))
  f190 := Tryz.func55.trans (congrArg some (by kernel_rfl))
  f258 := Tryz.func66.trans (congrArg some (by kernel_rfl))
  f302 := Tryz.func77.trans (congrArg some (by kernel_rfl))
  f303 := Tryz.func78.trans (congrArg some (by kernel_rfl))
  f304 := Tryz.func79.trans (congrArg some (by kernel_rfl))
  f305 := Tryz.func80.trans (congrArg some (by kernel_rfl))
  f306 := Tryz.func81.trans (congrArg some (by kernel_rfl))
  f307 := Tryz.func82.trans (congrArg some (by kernel_rfl))
  f308 := Tryz.func83.trans (congrArg some (by kernel_rfl))
  f309 := Tryz.func84.trans (congrArg some (by kernel_rfl))
  f310 := Tryz.func85.trans (congrArg some (by kernel_rfl))
  f329 := Tryz.func102.trans (congrArg some (by kernel_rfl))
  f330 := Tryz.func103.trans (congrArg some (by kernel_rfl))
  f333 := Tryz.func101.trans (congrArg some (by kernel_rfl))
  f334 := Tryz.func104.trans (congrArg some (by kernel_rfl))
  f335 := Tryz.func105.trans (congrArg some (by kernel_rfl))
  f336 := Tryz.func106.trans (congrArg some (by kernel_rfl))
  f344 := Tryz.func116.trans (congrArg some (by kernel_rfl))
  t0 := Tryz.underlying0
  a0 := Tryz.isAgg0
  z0 := Tryz.sizeOf0
  v0 := Tryz.zeroValue0
  t3 := Tryz.underlying3
  a3 := Tryz.isAgg3
  z3 := Tryz.sizeOf3
  v3 := Tryz.zeroValue3
  t4 := Tryz.underlying4
  a4 := Tryz.isAgg4
  z4 := Tryz.sizeOf4
  v4 := Tryz.zeroValue4
  t5 := Tryz.underlying5
  a5 := Tryz.isAgg5
  z5 := Tryz.sizeOf5
  v5 := Tryz.zeroValue5
  t9 := Tryz.underlying9
  a9 := Tryz.isAgg9
  z9 := Tryz.sizeOf9
  v9 := Tryz.zeroValue9
  t31 := Tryz.underlying62
  a31 := Tryz.isAgg62
  z31 := Tryz.sizeOf62
  v31 := Tryz.zeroValue62
  t46 := Tryz.underlying110
  a46 := Tryz.isAgg110
  z46 := Tryz.sizeOf110
  v46 := Tryz.zeroValue110
  t51 := Tryz.underlying144
  a51 := Tryz.isAgg144
  z51 := Tryz.sizeOf144
  v51 := Tryz.zeroValue144
  t53 := Tryz.underlying88
  a53 := Tryz.isAgg88
  z53 := Tryz.sizeOf88
  v53 := Tryz.zeroValue88
  t131 := Tryz.underlying141
  a131 := Tryz.isAgg141
  z131 := Tryz.sizeOf141
  v131 := Tryz.zeroValue141
  t182 := Tryz.underlying135
  a182 := Tryz.isAgg135
  z182 := Tryz.sizeOf135
  v182 := Tryz.zeroValue135
  t183 := Tryz.underlying136
  a183 := Tryz.isAgg136
  z183 := Tryz.sizeOf136
  v183 := Tryz.zeroValue136
  t218 := Tryz.underlying163
  a218 := Tryz.isAgg163
  z218 := Tryz.sizeOf163
  v218 := Tryz.zeroValue163
  t222 := Tryz.underlying167
  a222 := Tryz.isAgg167
  z222 := Tryz.sizeOf167
  v222 := Tryz.zeroValue167
  t228 := Tryz.underlying192
  a228 := Tryz.isAgg192
  z228 := Tryz.sizeOf192
  v228 := Tryz.zeroValue192
  t229 := Tryz.underlying193
  a229 := Tryz.isAgg193
  z229 := Tryz.sizeOf193
  v229 := Tryz.zeroValue193 }
open Go.Sort Go.RowKit in
theorem Tryz.slices_Sort_string (blk off cap : Nat) (ss : List (List UInt8)) (w : World) (hH : Holds encStr w blk off ss.toArray) (hblk : blk < w.heap.size) (hsz : ss.length < 4611686018427387904) :
    Calls Tryz.prog 55 #[.slice (some ⟨blk, off, none⟩) ss.length cap] w fun e w' =>
      e = .returned (.tuple #[]) ∧ ∃ n os, w' = grow (putRow encStr (Sort.ahead w n) blk off (ss.mergeSort fun x y => decide (x ≤ y)).toArray) os := Any.slices_Sort_string Tryz.lays190 blk off cap ss w hH hblk hsz
open Go.RowKit Go.Sort in
theorem Tryz.slices_Sort_string_none (p : Option Addr) (cap : Nat) (w : World) :
    Calls Tryz.prog 55 #[.slice p 0 cap] w fun e w' => e = .returned (.tuple #[]) ∧ w' = w := Any.slices_Sort_string_none Tryz.lays190 p cap w
end Go.Proofs
