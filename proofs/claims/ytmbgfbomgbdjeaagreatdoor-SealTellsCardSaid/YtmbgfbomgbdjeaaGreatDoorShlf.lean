/- Ideal runs. -/
import Derived.Shelf.Sort.Plain
import Derived.Shelf.Slices.In.SortNone
import Derived.Test.YtmbgfbomgbdjeaaGreatDoorProg
namespace Go.Proofs
open Go.Shelf
def Tryz.lays189_ren : Go.Shelf.Ren := ⟨fun | 189 => 48 | 125 => 74 | 257 => 73 | 128 => 115 | 129 => 116 | 294 => 106 | 295 => 107 | 296 => 108 | 297 => 109 | 298 => 110 | 299 => 111 | 216 => 112 | 300 => 113 | 301 => 114 | 328 => 131 | 329 => 132 | 330 => 133 | 331 => 134 | 332 => 135 | 215 => 126 | 343 => 152 | n => n, fun | 28 => 25 | 3 => 3 | 46 => 107 | 0 => 0 | 51 => 141 | 53 => 143 | 4 => 4 | 183 => 134 | 182 => 133 | 131 => 118 | 5 => 5 | 9 => 9 | 218 => 152 | 222 => 156 | 228 => 170 | 229 => 171 | n => n, fun | n => n⟩
theorem Tryz.lays189 : Go.Proofs.Lays.n189 Tryz.prog Tryz.lays189_ren := {
 mixed := by kernel_rfl
 f125 := Tryz.func74.trans (congrArg some (by kernel_rfl))
 f128 := Tryz.func115.trans (congrArg some (by kernel_rfl))
 f129 := Tryz.func116.trans (congrArg some (by kernel_rfl))
 f189 := Tryz.func48.trans (congrArg some (by kernel_rfl))
 f215 := Tryz.func126.trans (congrArg some (by kernel_rfl))
 f216 := Tryz.func112.trans (congrArg some (by kernel_rfl))
 f257 := Tryz.func73.trans (congrArg some (by kernel_rfl))
 f294 := Tryz.func106.trans (congrArg some (by kernel_rfl))
 f295 := Tryz.func107.trans (congrArg some (by kernel_rfl))
 f296 := Tryz.func108.trans (congrArg some (by kernel_rfl))
 f297 := Tryz.func109.trans (congrArg some (by kernel_rfl))
 f298 := Tryz.func110.trans (congrArg some (by kernel_rfl))
 f299 := Tryz.func111.trans (congrArg some (by kernel_rfl))
 f300 := Tryz.func113.trans (congrArg some (by kernel_rfl))
 f301 := Tryz.func114.trans (congrArg some (by kernel_rfl))
 f328 := Tryz.func131.trans (congrArg some (by kernel_rfl))
 f329 := Tryz.func132.trans (congrArg some (by kernel_rfl))
 f330 := Tryz.func133.trans (congrArg some (by kernel_rfl))
 f331 := Tryz.func134.trans (congrArg some (by kernel_rfl))
 f332 := Tryz.func135.trans (congrArg some (by kernel_rfl))
 f343 := Tryz.func152.trans (congrArg some (by kernel_rfl))
 t0 := Tryz.underlying0
 a0 := Tryz.isAgg0
 z0 := Tryz.sizeOf0
 v0 := Tryz.zeroValue0
 t3 := Tryz.underlying3
 a3 := Tryz.isAgg3
 z3 := Tryz.sizeOf3
 v3 := Tryz.zeroValue3
 t4 := Tryz.underlying4
 a4 := Tryz.isAgg4
 z4 := Tryz.sizeOf4
 v4 := Tryz.zeroValue4
 t5 := Tryz.underlying5
 a5 := Tryz.isAgg5
 z5 := Tryz.sizeOf5
 v5 := Tryz.zeroValue5
 t9 := Tryz.underlying9
 a9 := Tryz.isAgg9
 z9 := Tryz.sizeOf9
 v9 := Tryz.zeroValue9
 t28 := Tryz.underlying25
 a28 := Tryz.isAgg25
 z28 := Tryz.sizeOf25
 v28 := Tryz.zeroValue25
 t46 := Tryz.underlying107
 a46 := Tryz.isAgg107
 z46 := Tryz.sizeOf107
 v46 := Tryz.zeroValue107
 t51 := Tryz.underlying141
 a51 := Tryz.isAgg141
 z51 := Tryz.sizeOf141
 v51 := Tryz.zeroValue141
 t53 := Tryz.underlying143
 a53 := Tryz.isAgg143
 z53 := Tryz.sizeOf143
 v53 := Tryz.zeroValue143
 t131 := Tryz.underlying118
 a131 := Tryz.isAgg118
 z131 := Tryz.sizeOf118
 v131 := Tryz.zeroValue118
 t182 := Tryz.underlying133
 a182 := Tryz.isAgg133
 z182 := Tryz.sizeOf133
 v182 := Tryz.zeroValue133
 t183 := Tryz.underlying134
 a183 := Tryz.isAgg134
 z183 := Tryz.sizeOf134
 v183 := Tryz.zeroValue134
 t218 := Tryz.underlying152
 a218 := Tryz.isAgg152
 z218 := Tryz.sizeOf152
 v218 := Tryz.zeroValue152
 t222 := Tryz.underlying156
 a222 := Tryz.isAgg156
 z222 := Tryz.sizeOf156
 v222 := Tryz.zeroValue156
 t228 := Tryz.underlying170
 a228 := Tryz.isAgg170
 z228 := Tryz.sizeOf170
 v228 := Tryz.zeroValue170
 t229 := Tryz.underlying171
 a229 := Tryz.isAgg171
 z229 := Tryz.sizeOf171
 v229 := Tryz.zeroValue171 }
open Go.Sort Go.RowKit in
theorem Tryz.slices_Sort_int (blk off cap : Nat) (zs : List Int) (w : World) (hH : Holds (Value.int .i64) w blk off zs.toArray) (hblk : blk < w.heap.size) (hsz : zs.length < 4611686018427387904) :
 Calls Tryz.prog 48 #[.slice (some ⟨blk, off, none⟩) zs.length cap] w fun e w' =>
  e = .returned (.tuple #[]) ∧ ∃ n os, w' = grow (putRow (Value.int .i64) (Sort.ahead w n) blk off (zs.mergeSort fun x y => decide (x ≤ y)).toArray) os := Any.slices_Sort_int Tryz.lays189 blk off cap zs w hH hblk hsz
open Go.RowKit Go.Sort in
theorem Tryz.slices_Sort_int_none (p : Option Addr) (cap : Nat) (w : World) :
 Calls Tryz.prog 48 #[.slice p 0 cap] w fun e w' => e = .returned (.tuple #[]) ∧ w' = w := Any.slices_Sort_int_none Tryz.lays189 p cap w
end Go.Proofs
