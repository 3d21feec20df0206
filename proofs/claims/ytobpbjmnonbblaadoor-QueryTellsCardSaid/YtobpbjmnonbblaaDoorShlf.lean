/- The kit's contract for the sort of ints, laid at this program (its plain text). MADE BY lay-plain. -/
import Derived.Shelf.Sort.Plain
import Derived.Shelf.Slices.In.SortNone
import Derived.Test.YtobpbjmnonbblaaDoorProg
namespace Go.Proofs
open Go.Shelf
def Tryd.lays189_ren : Go.Shelf.Ren := ⟨fun | 189 => 32 | 125 => 48 | 257 => 47 | 128 => 65 | 129 => 66 | 294 => 56 | 295 => 57 | 296 => 58 | 297 => 59 | 298 => 60 | 299 => 61 | 216 => 62 | 300 => 63 | 301 => 64 | 328 => 74 | 329 => 75 | 330 => 76 | 331 => 77 | 332 => 78 | 215 => 79 | 343 => 84 | n => n, fun | 28 => 26 | 3 => 3 | 46 => 78 | 0 => 0 | 51 => 93 | 53 => 95 | 4 => 4 | 183 => 85 | 182 => 84 | 131 => 90 | 5 => 5 | 9 => 9 | 218 => 103 | 222 => 107 | 228 => 113 | 229 => 114 | n => n, fun | n => n⟩
theorem Tryd.lays189 : Go.Proofs.Lays.n189 Tryd.prog Tryd.lays189_ren := {
  mixed := by kernel_rfl
  f125 := Tryd.func48.trans (congrArg some (by kernel_rfl))
  f128 := Tryd.func65.trans (congrArg some (by kernel_rfl))
  f129 := Tryd.func66.trans (congrArg some (by kernel_rfl))
  f189 := Tryd.func32.trans (congrArg some (by kernel_rfl))
  f215 := Tryd.func79.trans (congrArg some (by kernel_rfl))
  f216 := Tryd.func62.trans (congrArg some (by kernel_rfl))
  f257 := Tryd.func47.trans (congrArg some (by kernel_rfl))
  f294 := Tryd.func56.trans (congrArg some (by kernel_rfl))
  f295 := Tryd.func57.trans (congrArg some (by kernel_rfl))
  f296 := Tryd.func58.trans (congrArg some (by kernel_rfl))
  f297 := Tryd.func59.trans (congrArg some (by kernel_rfl))
  f298 := Tryd.func60.trans (congrArg some (by kernel_rfl))
  f299 := Tryd.func61.trans (congrArg some (by kernel_rfl))
  f300 := Tryd.func63.trans (congrArg some (by kernel_rfl))
  f301 := Tryd.func64.trans (congrArg some (by kernel_rfl))
  f328 := Tryd.func74.trans (congrArg some (by kernel_rfl))
  f329 := Tryd.func75.trans (congrArg some (by kernel_rfl))
  f330 := Tryd.func76.trans (congrArg some (by kernel_rfl))
  f331 := Tryd.func77.trans (congrArg some (by kernel_rfl))
  f332 := Tryd.func78.trans (congrArg some (by kernel_rfl))
  f343 := Tryd.func84.trans (congrArg some (by kernel_rfl))
  t0 := Tryd.underlying0
  a0 := Tryd.isAgg0
  z0 := Tryd.sizeOf0
  v0 := Tryd.zeroValue0
  t3 := Tryd.underlying3
  a3 := Tryd.isAgg3
  z3 := Tryd.sizeOf3
  v3 := Tryd.zeroValue3
  t4 := Tryd.underlying4
  a4 := Tryd.isAgg4
  z4 := Tryd.sizeOf4
  v4 := Tryd.zeroValue4
  t5 := Tryd.underlying5
  a5 := Tryd.isAgg5
  z5 := Tryd.sizeOf5
  v5 := Tryd.zeroValue5
  t9 := Tryd.underlying9
  a9 := Tryd.isAgg9
  z9 := Tryd.sizeOf9
  v9 := Tryd.zeroValue9
  t28 := Tryd.underlying26
  a28 := Tryd.isAgg26
  z28 := Tryd.sizeOf26
  v28 := Tryd.zeroValue26
  t46 := Tryd.underlying78
  a46 := Tryd.isAgg78
  z46 := Tryd.sizeOf78
  v46 := Tryd.zeroValue78
  t51 := Tryd.underlying93
  a51 := Tryd.isAgg93
  z51 := Tryd.sizeOf93
  v51 := Tryd.zeroValue93
  t53 := Tryd.underlying95
  a53 := Tryd.isAgg95
  z53 := Tryd.sizeOf95
  v53 := Tryd.zeroValue95
  t131 := Tryd.underlying90
  a131 := Tryd.isAgg90
  z131 := Tryd.sizeOf90
  v131 := Tryd.zeroValue90
  t182 := Tryd.underlying84
  a182 := Tryd.isAgg84
  z182 := Tryd.sizeOf84
  v182 := Tryd.zeroValue84
  t183 := Tryd.underlying85
  a183 := Tryd.isAgg85
  z183 := Tryd.sizeOf85
  v183 := Tryd.zeroValue85
  t218 := Tryd.underlying103
  a218 := Tryd.isAgg103
  z218 := Tryd.sizeOf103
  v218 := Tryd.zeroValue103
  t222 := Tryd.underlying107
  a222 := Tryd.isAgg107
  z222 := Tryd.sizeOf107
  v222 := Tryd.zeroValue107
  t228 := Tryd.underlying113
  a228 := Tryd.isAgg113
  z228 := Tryd.sizeOf113
  v228 := Tryd.zeroValue113
  t229 := Tryd.underlying114
  a229 := Tryd.isAgg114
  z229 := Tryd.sizeOf114
  v229 := Tryd.zeroValue114 }
open Go.Sort Go.RowKit in
theorem Tryd.slices_Sort_int (blk off cap : Nat) (zs : List Int) (w : World) (hH : Holds (Value.int .i64) w blk off zs.toArray) (hblk : blk < w.heap.size) (hsz : zs.length < 4611686018427387904) :
    Calls Tryd.prog 32 #[.slice (some ⟨blk, off, none⟩) zs.length cap] w fun e w' =>
      e = .returned (.tuple #[]) ∧ ∃ n os, w' = grow (putRow (Value.int .i64) (Sort.ahead w n) blk off (zs.mergeSort fun x y => decide (x ≤ y)).toArray) os := Any.slices_Sort_int Tryd.lays189 blk off cap zs w hH hblk hsz
open Go.RowKit Go.Sort in
/-- .. and plain. (LAID: no walk: one application.) -/
theorem Tryd.slices_Sort_int_none (p : Option Addr) (cap : Nat) (w : World) :
    Calls Tryd.prog 32 #[.slice p 0 cap] w fun e w' => e = .returned (.tuple #[]) ∧ w' = w := Any.slices_Sort_int_none Tryd.lays189 p cap w
end Go.Proofs
