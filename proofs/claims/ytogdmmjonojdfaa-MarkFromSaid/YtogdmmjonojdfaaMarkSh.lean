/- The shelf's laying 'Lays.n189 Nm 189 at Try as Try.laysSort', in plain words; written by the kit's lay-plain. -/
import Derived.Shelf.Sort.Plain
import Derived.Shelf.Slices.In.SortNone
import Derived.Ground.NamesProg
import Derived.Test.YtogdmmjonojdfaaProg
namespace Go.Proofs
open Go.Shelf
def Try.laysSort_ren : Go.Shelf.Ren := ⟨fun | 189 => 24 | 125 => 33 | 257 => 32 | 128 => 45 | 129 => 46 | 294 => 36 | 295 => 37 | 296 => 38 | 297 => 39 | 298 => 40 | 299 => 41 | 216 => 42 | 300 => 43 | 301 => 44 | 328 => 48 | 329 => 49 | 330 => 50 | 331 => 51 | 332 => 52 | 215 => 53 | 343 => 54 | n => n, fun | 28 => 22 | 3 => 3 | 46 => 63 | 0 => 0 | 51 => 73 | 53 => 75 | 4 => 4 | 183 => 67 | 182 => 66 | 131 => 48 | 5 => 5 | 9 => 9 | 218 => 77 | 222 => 81 | 228 => 83 | 229 => 84 | n => n, fun | n => n⟩
theorem Try.laysSort : Go.Proofs.Lays.n189 Try.prog Try.laysSort_ren := {
  mixed := by kernel_rfl
  f125 := Try.func33.trans (congrArg some (by kernel_rfl))
  f128 := Try.func45.trans (congrArg some (by kernel_rfl))
  f129 := Try.func46.trans (congrArg some (by kernel_rfl))
  f189 := Try.func24.trans (congrArg some (by kernel_rfl))
  f215 := Try.func53.trans (congrArg some (by kernel_rfl))
  f216 := Try.func42.trans (congrArg some (by kernel_rfl))
  f257 := Try.func32.trans (congrArg some (by kernel_rfl))
  f294 := Try.func36.trans (congrArg some (by kernel_rfl))
  f295 := Try.func37.trans (congrArg some (by kernel_rfl))
  f296 := Try.func38.trans (congrArg some (by kernel_rfl))
  f297 := Try.func39.trans (congrArg some (by kernel_rfl))
  f298 := Try.func40.trans (congrArg some (by kernel_rfl))
  f299 := Try.func41.trans (congrArg some (by kernel_rfl))
  f300 := Try.func43.trans (congrArg some (by kernel_rfl))
  f301 := Try.func44.trans (congrArg some (by kernel_rfl))
  f328 := Try.func48.trans (congrArg some (by kernel_rfl))
  f329 := Try.func49.trans (congrArg some (by kernel_rfl))
  f330 := Try.func50.trans (congrArg some (by kernel_rfl))
  f331 := Try.func51.trans (congrArg some (by kernel_rfl))
  f332 := Try.func52.trans (congrArg some (by kernel_rfl))
  f343 := Try.func54.trans (congrArg some (by kernel_rfl))
  t0 := Try.underlying0
  a0 := Try.isAgg0
  z0 := Try.sizeOf0
  v0 := Try.zeroValue0
  t3 := Try.underlying3
  a3 := Try.isAgg3
  z3 := Try.sizeOf3
  v3 := Try.zeroValue3
  t4 := Try.underlying4
  a4 := Try.isAgg4
  z4 := Try.sizeOf4
  v4 := Try.zeroValue4
  t5 := Try.underlying5
  a5 := Try.isAgg5
  z5 := Try.sizeOf5
  v5 := Try.zeroValue5
  t9 := Try.underlying9
  a9 := Try.isAgg9
  z9 := Try.sizeOf9
  v9 := Try.zeroValue9
  t28 := Try.underlying22
  a28 := Try.isAgg22
  z28 := Try.sizeOf22
  v28 := Try.zeroValue22
  t46 := Try.underlying63
  a46 := Try.isAgg63
  z46 := Try.sizeOf63
  v46 := Try.zeroValue63
  t51 := Try.underlying73
  a51 := Try.isAgg73
  z51 := Try.sizeOf73
  v51 := Try.zeroValue73
  t53 := Try.underlying75
  a53 := Try.isAgg75
  z53 := Try.sizeOf75
  v53 := Try.zeroValue75
  t131 := Try.underlying48
  a131 := Try.isAgg48
  z131 := Try.sizeOf48
  v131 := Try.zeroValue48
  t182 := Try.underlying66
  a182 := Try.isAgg66
  z182 := Try.sizeOf66
  v182 := Try.zeroValue66
  t183 := Try.underlying67
  a183 := Try.isAgg67
  z183 := Try.sizeOf67
  v183 := Try.zeroValue67
  t218 := Try.underlying77
  a218 := Try.isAgg77
  z218 := Try.sizeOf77
  v218 := Try.zeroValue77
  t222 := Try.underlying81
  a222 := Try.isAgg81
  z222 := Try.sizeOf81
  v222 := Try.zeroValue81
  t228 := Try.underlying83
  a228 := Try.isAgg83
  z228 := Try.sizeOf83
  v228 := Try.zeroValue83
  t229 := Try.underlying84
  a229 := Try.isAgg84
  z229 := Try.sizeOf84
  v229 := Try.zeroValue84 }
end Go.Proofs
