/-
  The shelf's laying of slices.Sort at []int in this program's numbering.
  Conditions: none.
-/
import Derived.Shelf.Sort.Plain
import Derived.Test.YtkkllflbepcimaaDoorProg
namespace Go.Proofs
open Go.Shelf
def Tryd.lays189_ren : Go.Shelf.Ren := ⟨fun | 189 => 40 | 125 => 60 | 257 => 59 | 128 => 84 | 129 => 85 | 294 => 75 | 295 => 76 | 296 => 77 | 297 => 78 | 298 => 79 | 299 => 80 | 216 => 81 | 300 => 82 | 301 => 83 | 328 => 94 | 329 => 95 | 330 => 96 | 331 => 97 | 332 => 98 | 215 => 30 | 343 => 99 | n => n, fun | 28 => 30 | 3 => 3 | 46 => 114 | 0 => 0 | 51 => 138 | 53 => 140 | 4 => 4 | 183 => 131 | 182 => 130 | 131 => 135 | 5 => 5 | 9 => 9 | 218 => 144 | 222 => 148 | 228 => 151 | 229 => 152 | n => n, fun | n => n⟩
theorem Tryd.lays189 : Go.Proofs.Lays.n189 Tryd.prog Tryd.lays189_ren := {
  mixed := by kernel_rfl
  f125 := Tryd.func60.trans (congrArg some (by kernel_rfl))
  f128 := Tryd.func84.trans (congrArg some (by kernel_rfl))
  f129 := Tryd.func85.trans (congrArg some (by kernel_rfl))
  f189 := Tryd.func40.trans (congrArg some (by kernel_rfl))
  f215 := Tryd.func30.trans (congrArg some (by kernel_rfl))
  f216 := Tryd.func81.trans (congrArg some (by kernel_rfl))
  f257 := Tryd.func59.trans (congrArg some (by kernel_rfl))
  f294 := Tryd.func75.trans (congrArg some (by kernel_rfl))
  f295 := Tryd.func76.trans (congrArg some (by kernel_rfl))
  f296 := Tryd.func77.trans (congrArg some (by kernel_rfl))
  f297 := Tryd.func78.trans (congrArg some (by kernel_rfl))
  f298 := Tryd.func79.trans (congrArg some (by kernel_rfl))
  f299 := Tryd.func80.trans (congrArg some (by kernel_rfl))
  f300 := Tryd.func82.trans (congrArg some (by kernel_rfl))
  f301 := Tryd.func83.trans (congrArg some (by kernel_rfl))
  f328 := Tryd.func94.trans (congrArg some (by kernel_rfl))
  f329 := Tryd.func95.trans (congrArg some (by kernel_rfl))
  f330 := Tryd.func96.trans (congrArg some (by kernel_rfl))
  f331 := Tryd.func97.trans (congrArg some (by kernel_rfl))
  f332 := Tryd.func98.trans (congrArg some (by kernel_rfl))
  f343 := Tryd.func99.trans (congrArg some (by kernel_rfl))
  t0 := Tryd.underlying0
  a0 := Tryd.isAgg0
  z0 := Tryd.sizeOf0
  v0 := Tryd.zeroValue0
  t3 := Tryd.underlying3
  a3 := Tryd.isAgg3
  z3 := Tryd.sizeOf3
  v3 := Tryd.zeroValue3
  t4 := Tryd.underlying4
  a4 := Tryd.isAgg4
  z4 := Tryd.sizeOf4
  v4 := Tryd.zeroValue4
  t5 := Tryd.underlying5
  a5 := Tryd.isAgg5
  z5 := Tryd.sizeOf5
  v5 := Tryd.zeroValue5
  t9 := Tryd.underlying9
  a9 := Tryd.isAgg9
  z9 := Tryd.sizeOf9
  v9 := Tryd.zeroValue9
  t28 := Tryd.underlying30
  a28 := Tryd.isAgg30
  z28 := Tryd.sizeOf30
  v28 := Tryd.zeroValue30
  t46 := Tryd.underlying114
  a46 := Tryd.isAgg114
  z46 := Tryd.sizeOf114
  v46 := Tryd.zeroValue114
  t51 := Tryd.underlying138
  a51 := Tryd.isAgg138
  z51 := Tryd.sizeOf138
  v51 := Tryd.zeroValue138
  t53 := Tryd.underlying140
  a53 := Tryd.isAgg140
  z53 := Tryd.sizeOf140
  v53 := Tryd.zeroValue140
  t131 := Tryd.underlying135
  a131 := Tryd.isAgg135
  z131 := Tryd.sizeOf135
  v131 := Tryd.zeroValue135
  t182 := Tryd.underlying130
  a182 := Tryd.isAgg130
  z182 := Tryd.sizeOf130
  v182 := Tryd.zeroValue130
  t183 := Tryd.underlying131
  a183 := Tryd.isAgg131
  z183 := Tryd.sizeOf131
  v183 := Tryd.zeroValue131
  t218 := Tryd.underlying144
  a218 := Tryd.isAgg144
  z218 := Tryd.sizeOf144
  v218 := Tryd.zeroValue144
  t222 := Tryd.underlying148
  a222 := Tryd.isAgg148
  z222 := Tryd.sizeOf148
  v222 := Tryd.zeroValue148
  t228 := Tryd.underlying151
  a228 := Tryd.isAgg151
  z228 := Tryd.sizeOf151
  v228 := Tryd.zeroValue151
  t229 := Tryd.underlying152
  a229 := Tryd.isAgg152
  z229 := Tryd.sizeOf152
  v229 := Tryd.zeroValue152 }
end Go.Proofs
