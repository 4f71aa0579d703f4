/-
  Chapter 34: the library's sort of numbers, laid at this dump (printed by the kit's lay-plain.mjs).
-/
import Derived.Shelf.Sort.Plain
import Derived.Shelf.Slices.In.SortNone
import Derived.Test.YtlcngkigfcacmaaProg
namespace Go.Proofs
open Go.Shelf
def Try.lays189_ren : Go.Shelf.Ren := ⟨fun | 189 => 46 | 125 => 51 | 257 => 50 | 128 => 62 | 129 => 63 | 294 => 53 | 295 => 54 | 296 => 55 | 297 => 56 | 298 => 57 | 299 => 58 | 216 => 59 | 300 => 60 | 301 => 61 | 328 => 65 | 329 => 66 | 330 => 67 | 331 => 68 | 332 => 69 | 215 => 70 | 343 => 71 | n => n, fun | 28 => 56 | 3 => 3 | 46 => 72 | 0 => 0 | 51 => 83 | 53 => 85 | 4 => 4 | 183 => 75 | 182 => 74 | 131 => 80 | 5 => 5 | 9 => 9 | 218 => 87 | 222 => 91 | 228 => 94 | 229 => 95 | n => n, fun | n => n⟩
theorem Try.lays189 : Go.Proofs.Lays.n189 Try.prog Try.lays189_ren := {
  mixed := by kernel_rfl
  f125 := Try.func51.trans (congrArg some (by kernel_rfl))
  f128 := Try.func62.trans (congrArg some (by kernel_rfl))
  f129 := Try.func63.trans (congrArg some (by kernel_rfl))
  f189 := Try.func46.trans (congrArg some (by kernel_rfl))
  f215 := Try.func70.trans (congrArg some (by kernel_rfl))
  f216 := Try.func59.trans (congrArg some (by kernel_rfl))
  f257 := Try.func50.trans (congrArg some (by kernel_rfl))
  f294 := Try.func53.trans (congrArg some (by kernel_rfl))
  f295 := Try.func54.trans (congrArg some (by kernel_rfl))
  f296 := Try.func55.trans (congrArg some (by kernel_rfl))
  f297 := Try.func56.trans (congrArg some (by kernel_rfl))
  f298 := Try.func57.trans (congrArg some (by kernel_rfl))
  f299 := Try.func58.trans (congrArg some (by kernel_rfl))
  f300 := Try.func60.trans (congrArg some (by kernel_rfl))
  f301 := Try.func61.trans (congrArg some (by kernel_rfl))
  f328 := Try.func65.trans (congrArg some (by kernel_rfl))
  f329 := Try.func66.trans (congrArg some (by kernel_rfl))
  f330 := Try.func67.trans (congrArg some (by kernel_rfl))
  f331 := Try.func68.trans (congrArg some (by kernel_rfl))
  f332 := Try.func69.trans (congrArg some (by kernel_rfl))
  f343 := Try.func71.trans (congrArg some (by kernel_rfl))
  t0 := Try.underlying0
  a0 := Try.isAgg0
  z0 := Try.sizeOf0
  v0 := Try.zeroValue0
  t3 := Try.underlying3
  a3 := Try.isAgg3
  z3 := Try.sizeOf3
  v3 := Try.zeroValue3
  t4 := Try.underlying4
  a4 := Try.isAgg4
  z4 := Try.sizeOf4
  v4 := Try.zeroValue4
  t5 := Try.underlying5
  a5 := Try.isAgg5
  z5 := Try.sizeOf5
  v5 := Try.zeroValue5
  t9 := Try.underlying9
  a9 := Try.isAgg9
  z9 := Try.sizeOf9
  v9 := Try.zeroValue9
  t28 := Try.underlying56
  a28 := Try.isAgg56
  z28 := Try.sizeOf56
  v28 := Try.zeroValue56
  t46 := Try.underlying72
  a46 := Try.isAgg72
  z46 := Try.sizeOf72
  v46 := Try.zeroValue72
  t51 := Try.underlying83
  a51 := Try.isAgg83
  z51 := Try.sizeOf83
  v51 := Try.zeroValue83
  t53 := Try.underlying85
  a53 := Try.isAgg85
  z53 := Try.sizeOf85
  v53 := Try.zeroValue85
  t131 := Try.underlying80
  a131 := Try.isAgg80
  z131 := Try.sizeOf80
  v131 := Try.zeroValue80
  t182 := Try.underlying74
  a182 := Try.isAgg74
  z182 := Try.sizeOf74
  v182 := Try.zeroValue74
  t183 := Try.underlying75
  a183 := Try.isAgg75
  z183 := Try.sizeOf75
  v183 := Try.zeroValue75
  t218 := Try.underlying87
  a218 := Try.isAgg87
  z218 := Try.sizeOf87
  v218 := Try.zeroValue87
  t222 := Try.underlying91
  a222 := Try.isAgg91
  z222 := Try.sizeOf91
  v222 := Try.zeroValue91
  t228 := Try.underlying94
  a228 := Try.isAgg94
  z228 := Try.sizeOf94
  v228 := Try.zeroValue94
  t229 := Try.underlying95
  a229 := Try.isAgg95
  z229 := Try.sizeOf95
  v229 := Try.zeroValue95 }
open Go.Sort Go.RowKit in
theorem Try.slices_Sort_int (blk off cap : Nat) (zs : List Int) (w : World) (hH : Holds (Value.int .i64) w blk off zs.toArray) (hblk : blk < w.heap.size) (hsz : zs.length < 4611686018427387904) :
    Calls Try.prog 46 #[.slice (some ⟨blk, off, none⟩) zs.length cap] w fun e w' =>
      e = .returned (.tuple #[]) ∧ ∃ n os, w' = grow (putRow (Value.int .i64) (Sort.ahead w n) blk off (zs.mergeSort fun x y => decide (x ≤ y)).toArray) os := Any.slices_Sort_int Try.lays189 blk off cap zs w hH hblk hsz
open Go.RowKit Go.Sort in
/-- .. and plain. (LAID: no walk: one application.) -/
theorem Try.slices_Sort_int_none (p : Option Addr) (cap : Nat) (w : World) :
    Calls Try.prog 46 #[.slice p 0 cap] w fun e w' => e = .returned (.tuple #[]) ∧ w' = w := Any.slices_Sort_int_none Try.lays189 p cap w
end Go.Proofs
