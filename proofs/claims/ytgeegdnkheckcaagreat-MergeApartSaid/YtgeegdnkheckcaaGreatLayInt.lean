/- The library's sorting of ints, and its search among them, at this program's numbers (printed by the kit's own tool, the numbers by name). -/
import Derived.Shelf.Sort.Plain
import Derived.Shelf.Slices.In.SortNone
import Derived.Shelf.Slices.SearchI
import Derived.Ground.NamesProg
import Derived.Ground.Names2Prog
import Derived.Test.YtgeegdnkheckcaaGreatProg
set_option linter.unusedVariables false
namespace Go.Proofs
open Go.Shelf
def Tryz.lays189_ren : Go.Shelf.Ren := ⟨fun | 189 => 57 | 125 => 52 | 257 => 83 | 128 => 81 | 129 => 82 | 294 => 97 | 295 => 98 | 296 => 99 | 297 => 100 | 298 => 101 | 299 => 102 | 216 => 62 | 300 => 103 | 301 => 104 | 328 => 108 | 329 => 93 | 330 => 94 | 331 => 109 | 332 => 110 | 215 => 84 | 343 => 111 | n => n, fun | 28 => 26 | 3 => 3 | 46 => 102 | 0 => 0 | 51 => 129 | 53 => 131 | 4 => 4 | 183 => 123 | 182 => 122 | 131 => 72 | 5 => 5 | 9 => 9 | 218 => 140 | 222 => 144 | 228 => 153 | 229 => 154 | n => n, fun | n => n⟩
theorem Tryz.lays189 : Go.Proofs.Lays.n189 Tryz.prog Tryz.lays189_ren := {
  mixed := by kernel_rfl
  f125 := Tryz.func52.trans (congrArg some (by kernel_rfl))
  f128 := Tryz.func81.trans (congrArg some (by kernel_rfl))
  f129 := Tryz.func82.trans (congrArg some (by kernel_rfl))
  f189 := Tryz.func57.trans (congrArg some (by kernel_rfl))
  f215 := Tryz.func84.trans (congrArg some (by kernel_rfl))
  f216 := Tryz.func62.trans (congrArg some (by kernel_rfl))
  f257 := Tryz.func83.trans (congrArg some (by kernel_rfl))
  f294 := Tryz.func97.trans (congrArg some (by kernel_rfl))
  f295 := Tryz.func98.trans (congrArg some (by kernel_rfl))
  f296 := Tryz.func99.trans (congrArg some (by kernel_rfl))
  f297 := Tryz.func100.trans (congrArg some (by kernel_rfl))
  f298 := Tryz.func101.trans (congrArg some (by kernel_rfl))
  f299 := Tryz.func102.trans (congrArg some (by kernel_rfl))
  f300 := Tryz.func103.trans (congrArg some (by kernel_rfl))
  f301 := Tryz.func104.trans (congrArg some (by kernel_rfl))
  f328 := Tryz.func108.trans (congrArg some (by kernel_rfl))
  f329 := Tryz.func93.trans (congrArg some (by kernel_rfl))
  f330 := Tryz.func94.trans (congrArg some (by kernel_rfl))
  f331 := Tryz.func109.trans (congrArg some (by kernel_rfl))
  f332 := Tryz.func110.trans (congrArg some (by kernel_rfl))
  f343 := Tryz.func111.trans (congrArg some (by kernel_rfl))
  t0 := Tryz.underlying0
  a0 := Tryz.isAgg0
  z0 := Tryz.sizeOf0
  v0 := Tryz.zeroValue0
  t3 := Tryz.underlying3
  a3 := Tryz.isAgg3
  z3 := Tryz.sizeOf3
  v3 := Tryz.zeroValue3
  t4 := Tryz.underlying4
  a4 := Tryz.isAgg4
  z4 := Tryz.sizeOf4
  v4 := Tryz.zeroValue4
  t5 := Tryz.underlying5
  a5 := Tryz.isAgg5
  z5 := Tryz.sizeOf5
  v5 := Tryz.zeroValue5
  t9 := Tryz.underlying9
  a9 := Tryz.isAgg9
  z9 := Tryz.sizeOf9
  v9 := Tryz.zeroValue9
  t28 := Tryz.underlying26
  a28 := Tryz.isAgg26
  z28 := Tryz.sizeOf26
  v28 := Tryz.zeroValue26
  t46 := Tryz.underlying102
  a46 := Tryz.isAgg102
  z46 := Tryz.sizeOf102
  v46 := Tryz.zeroValue102
  t51 := Tryz.underlying129
  a51 := Tryz.isAgg129
  z51 := Tryz.sizeOf129
  v51 := Tryz.zeroValue129
  t53 := Tryz.underlying131
  a53 := Tryz.isAgg131
  z53 := Tryz.sizeOf131
  v53 := Tryz.zeroValue131
  t131 := Tryz.underlying72
  a131 := Tryz.isAgg72
  z131 := Tryz.sizeOf72
  v131 := Tryz.zeroValue72
  t182 := Tryz.underlying122
  a182 := Tryz.isAgg122
  z182 := Tryz.sizeOf122
  v182 := Tryz.zeroValue122
  t183 := Tryz.underlying123
  a183 := Tryz.isAgg123
  z183 := Tryz.sizeOf123
  v183 := Tryz.zeroValue123
  t218 := Tryz.underlying140
  a218 := Tryz.isAgg140
  z218 := Tryz.sizeOf140
  v218 := Tryz.zeroValue140
  t222 := Tryz.underlying144
  a222 := Tryz.isAgg144
  z222 := Tryz.sizeOf144
  v222 := Tryz.zeroValue144
  t228 := Tryz.underlying153
  a228 := Tryz.isAgg153
  z228 := Tryz.sizeOf153
  v228 := Tryz.zeroValue153
  t229 := Tryz.underlying154
  a229 := Tryz.isAgg154
  z229 := Tryz.sizeOf154
  v229 := Tryz.zeroValue154 }
def Tryz.lays225_ren : Go.Shelf.Ren := ⟨fun | 25 => 32 | 31 => 62 | 32 => 63 | 37 => 84 | n => n, fun | 22 => 26 | 3 => 3 | 4 => 4 | 40 => 102 | 0 => 0 | n => n, fun | n => n⟩
theorem Tryz.lays225 : Go.Proofs.Lays2.n25 Tryz.prog Tryz.lays225_ren := {
  mixed := by kernel_rfl
  f25 := Tryz.func32.trans (congrArg some (by kernel_rfl))
  f31 := Tryz.func62.trans (congrArg some (by kernel_rfl))
  f32 := Tryz.func63.trans (congrArg some (by kernel_rfl))
  f37 := Tryz.func84.trans (congrArg some (by kernel_rfl))
  t0 := Tryz.underlying0
  a0 := Tryz.isAgg0
  z0 := Tryz.sizeOf0
  v0 := Tryz.zeroValue0
  t3 := Tryz.underlying3
  a3 := Tryz.isAgg3
  z3 := Tryz.sizeOf3
  v3 := Tryz.zeroValue3
  t4 := Tryz.underlying4
  a4 := Tryz.isAgg4
  z4 := Tryz.sizeOf4
  v4 := Tryz.zeroValue4
  t22 := Tryz.underlying26
  a22 := Tryz.isAgg26
  z22 := Tryz.sizeOf26
  v22 := Tryz.zeroValue26
  t40 := Tryz.underlying102
  a40 := Tryz.isAgg102
  z40 := Tryz.sizeOf102
  v40 := Tryz.zeroValue102 }
end Go.Proofs
