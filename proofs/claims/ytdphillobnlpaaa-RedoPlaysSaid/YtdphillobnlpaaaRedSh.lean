/- The shelf's laying 'Lays.n189 Nm 189 at Try as Try.laysSort', in plain words; written by the kit's lay-plain. -/
import Derived.Shelf.Sort.Plain
import Derived.Shelf.Slices.In.SortNone
import Derived.Ground.NamesProg
import Derived.Test.YtdphillobnlpaaaProg
namespace Go.Proofs
open Go.Shelf
def Try.laysSort_ren : Go.Shelf.Ren := ⟨fun | 189 => 50 | 125 => 53 | 257 => 52 | 128 => 63 | 129 => 64 | 294 => 54 | 295 => 55 | 296 => 56 | 297 => 57 | 298 => 58 | 299 => 59 | 216 => 60 | 300 => 61 | 301 => 62 | 328 => 65 | 329 => 66 | 330 => 67 | 331 => 68 | 332 => 69 | 215 => 70 | 343 => 71 | n => n, fun | 28 => 22 | 3 => 3 | 46 => 81 | 0 => 0 | 51 => 92 | 53 => 28 | 4 => 4 | 183 => 84 | 182 => 83 | 131 => 89 | 5 => 5 | 9 => 9 | 218 => 94 | 222 => 98 | 228 => 100 | 229 => 101 | n => n, fun | n => n⟩
theorem Try.laysSort : Go.Proofs.Lays.n189 Try.prog Try.laysSort_ren := {
  mixed := by kernel_rfl
  f125 := Try.func53.trans (congrArg some (by kernel_rfl))
  f128 := Try.func63.trans (congrArg some (by kernel_rfl))
  f129 := Try.func64.trans (congrArg some (by kernel_rfl))
  f189 := Try.func50.trans (congrArg some (by kernel_rfl))
  f215 := Try.func70.trans (congrArg some (by kernel_rfl))
  f216 := Try.func60.trans (congrArg some (by kernel_rfl))
  f257 := Try.func52.trans (congrArg some (by kernel_rfl))
  f294 := Try.func54.trans (congrArg some (by kernel_rfl))
  f295 := Try.func55.trans (congrArg some (by kernel_rfl))
  f296 := Try.func56.trans (congrArg some (by kernel_rfl))
  f297 := Try.func57.trans (congrArg some (by kernel_rfl))
  f298 := Try.func58.trans (congrArg some (by kernel_rfl))
  f299 := Try.func59.trans (congrArg some (by kernel_rfl))
  f300 := Try.func61.trans (congrArg some (by kernel_rfl))
  f301 := Try.func62.trans (congrArg some (by kernel_rfl))
  f328 := Try.func65.trans (congrArg some (by kernel_rfl))
  f329 := Try.func66.trans (congrArg some (by kernel_rfl))
  f330 := Try.func67.trans (congrArg some (by kernel_rfl))
  f331 := Try.func68.trans (congrArg some (by kernel_rfl))
  f332 := Try.func69.trans (congrArg some (by kernel_rfl))
  f343 := Try.func71.trans (congrArg some (by kernel_rfl))
  t0 := Try.underlying0
  a0 := Try.isAgg0
  z0 := Try.sizeOf0
  v0 := Try.zeroValue0
  t3 := Try.underlying3
  a3 := Try.isAgg3
  z3 := Try.sizeOf3
  v3 := Try.zeroValue3
  t4 := Try.underlying4
  a4 := Try.isAgg4
  z4 := Try.sizeOf4
  v4 := Try.zeroValue4
  t5 := Try.underlying5
  a5 := Try.isAgg5
  z5 := Try.sizeOf5
  v5 := Try.zeroValue5
  t9 := Try.underlying9
  a9 := Try.isAgg9
  z9 := Try.sizeOf9
  v9 := Try.zeroValue9
  t28 := Try.underlying22
  a28 := Try.isAgg22
  z28 := Try.sizeOf22
  v28 := Try.zeroValue22
  t46 := Try.underlying81
  a46 := Try.isAgg81
  z46 := Try.sizeOf81
  v46 := Try.zeroValue81
  t51 := Try.underlying92
  a51 := Try.isAgg92
  z51 := Try.sizeOf92
  v51 := Try.zeroValue92
  t53 := Try.underlying28
  a53 := Try.isAgg28
  z53 := Try.sizeOf28
  v53 := Try.zeroValue28
  t131 := Try.underlying89
  a131 := Try.isAgg89
  z131 := Try.sizeOf89
  v131 := Try.zeroValue89
  t182 := Try.underlying83
  a182 := Try.isAgg83
  z182 := Try.sizeOf83
  v182 := Try.zeroValue83
  t183 := Try.underlying84
  a183 := Try.isAgg84
  z183 := Try.sizeOf84
  v183 := Try.zeroValue84
  t218 := Try.underlying94
  a218 := Try.isAgg94
  z218 := Try.sizeOf94
  v218 := Try.zeroValue94
  t222 := Try.underlying98
  a222 := Try.isAgg98
  z222 := Try.sizeOf98
  v222 := Try.zeroValue98
  t228 := Try.underlying100
  a228 := Try.isAgg100
  z228 := Try.sizeOf100
  v228 := Try.zeroValue100
  t229 := Try.underlying101
  a229 := Try.isAgg101
  z229 := Try.sizeOf101
  v229 := Try.zeroValue101 }
end Go.Proofs
