/-
  The shelf's laying of slices.Sort at []int in this program's numbering.
  Conditions: none.
-/
import Derived.Shelf.Sort.Plain
import Derived.Test.YtiknhfbkphoceaaGreatDoorProg
namespace Go.Proofs
open Go.Shelf
def Tryz.lays189_ren : Go.Shelf.Ren := ⟨fun | 189 => 53 | 125 => 73 | 257 => 72 | 128 => 97 | 129 => 98 | 294 => 88 | 295 => 89 | 296 => 90 | 297 => 91 | 298 => 92 | 299 => 93 | 216 => 94 | 300 => 95 | 301 => 96 | 328 => 107 | 329 => 108 | 330 => 109 | 331 => 110 | 332 => 111 | 215 => 38 | 343 => 112 | n => n, fun | 28 => 26 | 3 => 3 | 46 => 127 | 0 => 0 | 51 => 150 | 53 => 152 | 4 => 4 | 183 => 143 | 182 => 142 | 131 => 147 | 5 => 5 | 9 => 9 | 218 => 156 | 222 => 160 | 228 => 163 | 229 => 164 | n => n, fun | n => n⟩
theorem Tryz.lays189 : Go.Proofs.Lays.n189 Tryz.prog Tryz.lays189_ren := {
  mixed := by kernel_rfl
  f125 := Tryz.func73.trans (congrArg some (by kernel_rfl))
  f128 := Tryz.func97.trans (congrArg some (by kernel_rfl))
  f129 := Tryz.func98.trans (congrArg some (by kernel_rfl))
  f189 := Tryz.func53.trans (congrArg some (by kernel_rfl))
  f215 := Tryz.func38.trans (congrArg some (by kernel_rfl))
  f216 := Tryz.func94.trans (congrArg some (by kernel_rfl))
  f257 := Tryz.func72.trans (congrArg some (by kernel_rfl))
  f294 := Tryz.func88.trans (congrArg some (by kernel_rfl))
  f295 := Tryz.func89.trans (congrArg some (by kernel_rfl))
  f296 := Tryz.func90.trans (congrArg some (by kernel_rfl))
  f297 := Tryz.func91.trans (congrArg some (by kernel_rfl))
  f298 := Tryz.func92.trans (congrArg some (by kernel_rfl))
  f299 := Tryz.func93.trans (congrArg some (by kernel_rfl))
  f300 := Tryz.func95.trans (congrArg some (by kernel_rfl))
  f301 := Tryz.func96.trans (congrArg some (by kernel_rfl))
  f328 := Tryz.func107.trans (congrArg some (by kernel_rfl))
  f329 := Tryz.func108.trans (congrArg some (by kernel_rfl))
  f330 := Tryz.func109.trans (congrArg some (by kernel_rfl))
  f331 := Tryz.func110.trans (congrArg some (by kernel_rfl))
  f332 := Tryz.func111.trans (congrArg some (by kernel_rfl))
  f343 := Tryz.func112.trans (congrArg some (by kernel_rfl))
  t0 := Tryz.underlying0
  a0 := Tryz.isAgg0
  z0 := Tryz.sizeOf0
  v0 := Tryz.zeroValue0
  t3 := Tryz.underlying3
  a3 := Tryz.isAgg3
  z3 := Tryz.sizeOf3
  v3 := Tryz.zeroValue3
  t4 := Tryz.underlying4
  a4 := Tryz.isAgg4
  z4 := Tryz.sizeOf4
  v4 := Tryz.zeroValue4
  t5 := Tryz.underlying5
  a5 := Tryz.isAgg5
  z5 := Tryz.sizeOf5
  v5 := Tryz.zeroValue5
  t9 := Tryz.underlying9
  a9 := Tryz.isAgg9
  z9 := Tryz.sizeOf9
  v9 := Tryz.zeroValue9
  t28 := Tryz.underlying26
  a28 := Tryz.isAgg26
  z28 := Tryz.sizeOf26
  v28 := Tryz.zeroValue26
  t46 := Tryz.underlying127
  a46 := Tryz.isAgg127
  z46 := Tryz.sizeOf127
  v46 := Tryz.zeroValue127
  t51 := Tryz.underlying150
  a51 := Tryz.isAgg150
  z51 := Tryz.sizeOf150
  v51 := Tryz.zeroValue150
  t53 := Tryz.underlying152
  a53 := Tryz.isAgg152
  z53 := Tryz.sizeOf152
  v53 := Tryz.zeroValue152
  t131 := Tryz.underlying147
  a131 := Tryz.isAgg147
  z131 := Tryz.sizeOf147
  v131 := Tryz.zeroValue147
  t182 := Tryz.underlying142
  a182 := Tryz.isAgg142
  z182 := Tryz.sizeOf142
  v182 := Tryz.zeroValue142
  t183 := Tryz.underlying143
  a183 := Tryz.isAgg143
  z183 := Tryz.sizeOf143
  v183 := Tryz.zeroValue143
  t218 := Tryz.underlying156
  a218 := Tryz.isAgg156
  z218 := Tryz.sizeOf156
  v218 := Tryz.zeroValue156
  t222 := Tryz.underlying160
  a222 := Tryz.isAgg160
  z222 := Tryz.sizeOf160
  v222 := Tryz.zeroValue160
  t228 := Tryz.underlying163
  a228 := Tryz.isAgg163
  z228 := Tryz.sizeOf163
  v228 := Tryz.zeroValue163
  t229 := Tryz.underlying164
  a229 := Tryz.isAgg164
  z229 := Tryz.sizeOf164
  v229 := Tryz.zeroValue164 }
end Go.Proofs
