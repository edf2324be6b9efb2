/-
  The shelf's laying of slices.Sort at []int in this program's numbering.
  Conditions: none.
-/
import Derived.Shelf.Sort.Plain
import Derived.Test.YtgnkkgbjcodihaaDoorProg
namespace Go.Proofs
open Go.Shelf
def Tryd.lays189_ren : Go.Shelf.Ren := ⟨fun | 189 => 66 | 125 => 86 | 257 => 85 | 128 => 115 | 129 => 116 | 294 => 106 | 295 => 107 | 296 => 108 | 297 => 109 | 298 => 110 | 299 => 111 | 216 => 112 | 300 => 113 | 301 => 114 | 328 => 119 | 329 => 120 | 330 => 121 | 331 => 122 | 332 => 123 | 215 => 71 | 343 => 125 | n => n, fun | 28 => 26 | 3 => 3 | 46 => 137 | 0 => 0 | 51 => 158 | 53 => 160 | 4 => 4 | 183 => 151 | 182 => 150 | 131 => 155 | 5 => 5 | 9 => 9 | 218 => 163 | 222 => 167 | 228 => 169 | 229 => 170 | n => n, fun | n => n⟩
theorem Tryd.lays189 : Go.Proofs.Lays.n189 Tryd.prog Tryd.lays189_ren := {
  mixed := by kernel_rfl
  f125 := Tryd.func86.trans (congrArg some (by kernel_rfl))
  f128 := Tryd.func115.trans (congrArg some (by kernel_rfl))
  f129 := Tryd.func116.trans (congrArg some (by kernel_rfl))
  f189 := Tryd.func66.trans (congrArg some (by kernel_rfl))
  f215 := Tryd.func71.trans (congrArg some (by kernel_rfl))
  f216 := Tryd.func112.trans (congrArg some (by kernel_rfl))
  f257 := Tryd.func85.trans (congrArg some (by kernel_rfl))
  f294 := Tryd.func106.trans (congrArg some (by kernel_rfl))
  f295 := Tryd.func107.trans (congrArg some (by kernel_rfl))
  f296 := Tryd.func108.trans (congrArg some (by kernel_rfl))
  f297 := Tryd.func109.trans (congrArg some (by kernel_rfl))
  f298 := Tryd.func110.trans (congrArg some (by kernel_rfl))
  f299 := Tryd.func111.trans (congrArg some (by kernel_rfl))
  f300 := Tryd.func113.trans (congrArg some (by kernel_rfl))
  f301 := Tryd.func114.trans (congrArg some (by kernel_rfl))
  f328 := Tryd.func119.trans (congrArg some (by kernel_rfl))
  f329 := Tryd.func120.trans (congrArg some (by kernel_rfl))
  f330 := Tryd.func121.trans (congrArg some (by kernel_rfl))
  f331 := Tryd.func122.trans (congrArg some (by kernel_rfl))
  f332 := Tryd.func123.trans (congrArg some (by kernel_rfl))
  f343 := Tryd.func125.trans (congrArg some (by kernel_rfl))
  t0 := Tryd.underlying0
  a0 := Tryd.isAgg0
  z0 := Tryd.sizeOf0
  v0 := Tryd.zeroValue0
  t3 := Tryd.underlying3
  a3 := Tryd.isAgg3
  z3 := Tryd.sizeOf3
  v3 := Tryd.zeroValue3
  t4 := Tryd.underlying4
  a4 := Tryd.isAgg4
  z4 := Tryd.sizeOf4
  v4 := Tryd.zeroValue4
  t5 := Tryd.underlying5
  a5 := Tryd.isAgg5
  z5 := Tryd.sizeOf5
  v5 := Tryd.zeroValue5
  t9 := Tryd.underlying9
  a9 := Tryd.isAgg9
  z9 := Tryd.sizeOf9
  v9 := Tryd.zeroValue9
  t28 := Tryd.underlying26
  a28 := Tryd.isAgg26
  z28 := Tryd.sizeOf26
  v28 := Tryd.zeroValue26
  t46 := Tryd.underlying137
  a46 := Tryd.isAgg137
  z46 := Tryd.sizeOf137
  v46 := Tryd.zeroValue137
  t51 := Tryd.underlying158
  a51 := Tryd.isAgg158
  z51 := Tryd.sizeOf158
  v51 := Tryd.zeroValue158
  t53 := Tryd.underlying160
  a53 := Tryd.isAgg160
  z53 := Tryd.sizeOf160
  v53 := Tryd.zeroValue160
  t131 := Tryd.underlying155
  a131 := Tryd.isAgg155
  z131 := Tryd.sizeOf155
  v131 := Tryd.zeroValue155
  t182 := Tryd.underlying150
  a182 := Tryd.isAgg150
  z182 := Tryd.sizeOf150
  v182 := Tryd.zeroValue150
  t183 := Tryd.underlying151
  a183 := Tryd.isAgg151
  z183 := Tryd.sizeOf151
  v183 := Tryd.zeroValue151
  t218 := Tryd.underlying163
  a218 := Tryd.isAgg163
  z218 := Tryd.sizeOf163
  v218 := Tryd.zeroValue163
  t222 := Tryd.underlying167
  a222 := Tryd.isAgg167
  z222 := Tryd.sizeOf167
  v222 := Tryd.zeroValue167
  t228 := Tryd.underlying169
  a228 := Tryd.isAgg169
  z228 := Tryd.sizeOf169
  v228 := Tryd.zeroValue169
  t229 := Tryd.underlying170
  a229 := Tryd.isAgg170
  z229 := Tryd.sizeOf170
  v229 := Tryd.zeroValue170 }
end Go.Proofs
