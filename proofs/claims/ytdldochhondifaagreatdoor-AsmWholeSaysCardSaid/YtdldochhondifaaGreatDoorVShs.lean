/-
  Texts of the claim AsmWholeSays (Shs): what each proves stands at its theorems.
  Conditions: as the theorems say.
-/
import Derived.Shelf.Strings.Builder1
import Derived.Shelf.Strings.Builder2
import Derived.Shelf.Strings.OnBuilder
import Derived.Shelf.Small.Utf8
import Derived.Shelf.Small.Bits
import Derived.Shelf.Small.Wraps
import Derived.Shelf.Strings.BuilderF
import Derived.Shelf.Strings.BuilderK
import Derived.Shelf.Utf8.RuneCount
import Derived.Shelf.Strings.Builder2Cap
import Derived.Shelf.Strconv.Atoi
import Derived.Shelf.Strconv.Itoa0
import Derived.Shelf.Strconv.Itoa1
import Derived.Shelf.LaysM
import Derived.Shelf.Strconv.Itoa2
import Derived.Shelf.Strconv.Itoa3
import Derived.Shelf.Strconv.AtoiErrFast
import Derived.Shelf.Strconv.ParseIntEmpty
import Derived.Shelf.Strconv.AtoiFail
import Derived.Shelf.Strconv.Clone
import Derived.Shelf.Strconv.SyntaxError
import Derived.Shelf.LaysC
import Derived.Shelf.Strconv.ToError
import Derived.Shelf.Strconv.AtoiErr
import Derived.Shelf.Strconv.ErrVar
import Derived.Shelf.Strconv.Lower
import Derived.Shelf.Strconv.ParseUint10
import Derived.Shelf.Strconv.ParseUint10Empty
import Derived.Shelf.Strconv.ParseUint10Any
import Derived.Shelf.Strconv.ParseInt10
import Derived.Shelf.Strconv.AtoiLong
import Derived.Shelf.Strconv.AtoiInnerAll
import Derived.Shelf.Strconv.RangeError
import Derived.Shelf.Strconv.ToErrorRange
import Derived.Shelf.Strconv.ParseUintEmpty
import Derived.Shelf.Strconv.ParseUint10b64
import Derived.Shelf.Strconv.ParseUint10b32
import Derived.Shelf.Strconv.ParseUint10b16
import Derived.Shelf.Strconv.ParseUint10b8
import Derived.Shelf.Strconv.ParseUint10At
import Derived.Shelf.Strconv.ParseInt10At64
import Derived.Shelf.Strconv.ParseInt10At32
import Derived.Shelf.Strconv.ParseInt10At16
import Derived.Shelf.Strconv.ParseInt10At8
import Derived.Shelf.Strconv.ParseInt10All
import Derived.Shelf.Strings.Search1
import Derived.Shelf.Strings.Search2
import Derived.Shelf.Strings.Search3
import Derived.Shelf.Strings.Cut
import Derived.Shelf.Strings.Count
import Derived.Shelf.Strings.Shaped
import Derived.Shelf.Strings.Prefix
import Derived.Shelf.Strings.Split
import Derived.Shelf.Strings.SplitShaped
import Derived.Shelf.Unicode.Decode
import Derived.Shelf.Strings.RuneCount
import Derived.Shelf.Strings.Explode
import Derived.Shelf.Unicode.DecodeSlow
import Derived.Shelf.Unicode.DecodeAny
import Derived.Shelf.Unicode.DecodeLast
import Derived.Shelf.Strings.BuilderCap
import Derived.Shelf.Slices.Turned
import Derived.Ground.SlgnProg
import Derived.Shelf.SlicesE.Reverse
import Derived.Test.YtdldochhondifaaGreatDoorProg

namespace Go.Proofs
open Go.Shelf
def Tryz.lays103_ren : Go.Shelf.Ren := ⟨fun | 103 => 57 | 210 => 108 | 206 => 144 | n => n, fun | 9 => 9 | 4 => 4 | 24 => 110 | 3 => 3 | n => n, fun | n => n⟩
theorem Tryz.lays103 : Go.Proofs.Lays.n103 Tryz.prog Tryz.lays103_ren := {
  mixed := by kernel_rfl
  f103 := Tryz.func57.trans (congrArg some (by kernel_rfl))
  f206 := Tryz.func144.trans (congrArg some (by kernel_rfl))
  f210 := Tryz.func108.trans (congrArg some (by kernel_rfl))
  t3 := Tryz.underlying3
  a3 := Tryz.isAgg3
  z3 := Tryz.sizeOf3
  v3 := Tryz.zeroValue3
  t4 := Tryz.underlying4
  a4 := Tryz.isAgg4
  z4 := Tryz.sizeOf4
  v4 := Tryz.zeroValue4
  t9 := Tryz.underlying9
  a9 := Tryz.isAgg9
  z9 := Tryz.sizeOf9
  v9 := Tryz.zeroValue9
  t24 := Tryz.underlying110
  a24 := Tryz.isAgg110
  z24 := Tryz.sizeOf110
  v24 := Tryz.zeroValue110 }
open Go.RowKit in
/-- strings.CutPrefix: "CutPrefix returns s without the provided leading prefix string and reports whether it found the prefix. If s doesn't start with prefix, CutPrefix returns s, false. If prefix is the empty string, CutPrefix returns s, true.": IT RETURNS '(Lib.trimPrefix s p, Lib.hasPrefix s p)'; the world is as it was. (LAID: no walk: one application.) -/
theorem Tryz.strings_CutPrefix (s p : ByteArray) (w : World) :
    Calls Tryz.prog 57 #[.string s, .string p] w fun e w' => e = .returned (.tuple #[.string ⟨(Lib.trimPrefix s.data.toList p.data.toList).toArray⟩, .bool (Lib.hasPrefix s.data.toList p.data.toList)]) ∧ w' = w := Any.strings_CutPrefix Tryz.lays103 s p w
def Tryz.lays104_ren : Go.Shelf.Ren := ⟨fun | 104 => 56 | 211 => 107 | 207 => 143 | n => n, fun | 9 => 9 | 4 => 4 | 24 => 110 | 3 => 3 | n => n, fun | n => n⟩
theorem Tryz.lays104 : Go.Proofs.Lays.n104 Tryz.prog Tryz.lays104_ren := {
  mixed := by kernel_rfl
  f104 := Tryz.func56.trans (congrArg some (by kernel_rfl))
  f207 := Tryz.func143.trans (congrArg some (by kernel_rfl))
  f211 := Tryz.func107.trans (congrArg some (by kernel_rfl))
  t3 := Tryz.underlying3
  a3 := Tryz.isAgg3
  z3 := Tryz.sizeOf3
  v3 := Tryz.zeroValue3
  t4 := Tryz.underlying4
  a4 := Tryz.isAgg4
  z4 := Tryz.sizeOf4
  v4 := Tryz.zeroValue4
  t9 := Tryz.underlying9
  a9 := Tryz.isAgg9
  z9 := Tryz.sizeOf9
  v9 := Tryz.zeroValue9
  t24 := Tryz.underlying110
  a24 := Tryz.isAgg110
  z24 := Tryz.sizeOf110
  v24 := Tryz.zeroValue110 }
open Go.RowKit in
/-- strings.CutSuffix: "CutSuffix returns s without the provided ending suffix string and reports whether it found the suffix. If s doesn't end with suffix, CutSuffix returns s, false. If suffix is the empty string, CutSuffix returns s, true.": IT RETURNS '(Lib.trimSuffix s p, Lib.hasSuffix s p)'; the world is as it was. (LAID: no walk: one application.) -/
theorem Tryz.strings_CutSuffix (s p : ByteArray) (w : World) (hs : s.size ≤ 9223372036854775807) :
    Calls Tryz.prog 56 #[.string s, .string p] w fun e w' => e = .returned (.tuple #[.string ⟨(Lib.trimSuffix s.data.toList p.data.toList).toArray⟩, .bool (Lib.hasSuffix s.data.toList p.data.toList)]) ∧ w' = w := Any.strings_CutSuffix Tryz.lays104 s p w hs
def Tryz.laysM171_ren : Go.Shelf.Ren := ⟨fun | 171 => 34 | 243 => 82 | 246 => 121 | 283 => 154 | 284 => 155 | 285 => 156 | 286 => 157 | 129 => 179 | 317 => 178 | 318 => 180 | 319 => 181 | 320 => 182 | 337 => 192 | 338 => 193 | n => n, fun | 3 => 3 | 9 => 9 | 2 => 2 | 4 => 4 | 171 => 214 | 0 => 0 | 53 => 178 | 37 => 72 | 5 => 5 | 173 => 216 | 212 => 236 | 51 => 237 | 20 => 20 | 213 => 238 | 46 => 185 | 232 => 254 | 233 => 255 | n => n, fun | 17 => 5 | 18 => 8 | 19 => 9 | n => n⟩
theorem Tryz.laysM171 : Go.Proofs.LaysM.n171 Tryz.prog Tryz.laysM171_ren := {
  mixed := by kernel_rfl
  f129 := Tryz.func179.trans (congrArg some (by kernel_rfl))
  f171 := Tryz.func34.trans (congrArg some (by kernel_rfl))
  f243 := Tryz.func82.trans (congrArg some (by kernel_rfl))
  f246 := Tryz.func121.trans (congrArg some (by kernel_rfl))
  f283 := Tryz.func154.trans (congrArg some (by kernel_rfl))
  f284 := Tryz.func155.trans (congrArg some (by kernel_rfl))
  f285 := Tryz.func156.trans (congrArg some (by kernel_rfl))
  f286 := Tryz.func157.trans (congrArg some (by kernel_rfl))
  f317 := Tryz.func178.trans (congrArg some (by kernel_rfl))
  f318 := Tryz.func180.trans (congrArg some (by kernel_rfl))
  f319 := Tryz.func181.trans (congrArg some (by kernel_rfl))
  f320 := Tryz.func182.trans (congrArg some (by kernel_rfl))
  f337 := Tryz.func192.trans (congrArg some (by kernel_rfl))
  f338 := Tryz.func193.trans (congrArg some (by kernel_rfl))
  t0 := Tryz.underlying0
  a0 := Tryz.isAgg0
  z0 := Tryz.sizeOf0
  v0 := Tryz.zeroValue0
  t2 := Tryz.underlying2
  a2 := Tryz.isAgg2
  z2 := Tryz.sizeOf2
  v2 := Tryz.zeroValue2
  t3 := Tryz.underlying3
  a3 := Tryz.isAgg3
  z3 := Tryz.sizeOf3
  v3 := Tryz.zeroValue3
  t4 := Tryz.underlying4
  a4 := Tryz.isAgg4
  z4 := Tryz.sizeOf4
  v4 := Tryz.zeroValue4
  t5 := Tryz.underlying5
  a5 := Tryz.isAgg5
  z5 := Tryz.sizeOf5
  v5 := Tryz.zeroValue5
  t9 := Tryz.underlying9
  a9 := Tryz.isAgg9
  z9 := Tryz.sizeOf9
  v9 := Tryz.zeroValue9
  t20 := Tryz.underlying20
  a20 := Tryz.isAgg20
  z20 := Tryz.sizeOf20
  v20 := Tryz.zeroValue20
  t37 := Tryz.underlying72
  a37 := Tryz.isAgg72
  z37 := Tryz.sizeOf72
  v37 := Tryz.zeroValue72
  t46 := Tryz.underlying185
  a46 := Tryz.isAgg185
  z46 := Tryz.sizeOf185
  v46 := Tryz.zeroValue185
  t51 := Tryz.underlying237
  a51 := Tryz.isAgg237
  z51 := Tryz.sizeOf237
  v51 := Tryz.zeroValue237
  t53 := Tryz.underlying178
  a53 := Tryz.isAgg178
  z53 := Tryz.sizeOf178
  v53 := Tryz.zeroValue178
  t171 := Tryz.underlying214
  a171 := Tryz.isAgg214
  z171 := Tryz.sizeOf214
  v171 := Tryz.zeroValue214
  t173 := Tryz.underlying216
  a173 := Tryz.isAgg216
  z173 := Tryz.sizeOf216
  v173 := Tryz.zeroValue216
  t212 := Tryz.underlying236
  a212 := Tryz.isAgg236
  z212 := Tryz.sizeOf236
  v212 := Tryz.zeroValue236
  t213 := Tryz.underlying238
  a213 := Tryz.isAgg238
  z213 := Tryz.sizeOf238
  t232 := Tryz.underlying254
  a232 := Tryz.isAgg254
  z232 := Tryz.sizeOf254
  v232 := Tryz.zeroValue254
  t233 := Tryz.underlying255
  a233 := Tryz.isAgg255
  z233 := Tryz.sizeOf255
  v233 := Tryz.zeroValue255
  g17 := by kernel_rfl
  g18 := by kernel_rfl
  g19 := by kernel_rfl
  i0 := by kernel_rfl
  i2 := by kernel_rfl
  i3 := by kernel_rfl
  i4 := by kernel_rfl
  i5 := by kernel_rfl
  i9 := by kernel_rfl
  i20 := by kernel_rfl
  i37 := by kernel_rfl
  i46 := by kernel_rfl
  i51 := by kernel_rfl
  i53 := by kernel_rfl
  i171 := by kernel_rfl
  i173 := by kernel_rfl
  i212 := by kernel_rfl
  i232 := by kernel_rfl
  i233 := by kernel_rfl
  m17 := by kernel_rfl
  m18 := by kernel_rfl
  m19 := by kernel_rfl }
open Go.RowKit Go.Sort Go.Lib in
/-- strconv.Itoa: "Itoa is equivalent to FormatInt(int64(i), 10).": i's DECIMAL NUMERAL ('Lib.itoa': a '-' where i is negative, then the digits), FOR EVERY int. The world behind the call: the world before it, new blocks behind the heap (the library's 'var a [24]byte'), draws. (LAID: no walk: one application.) -/
theorem Tryz.strconv_Itoa (n : Int) (h0 : -9223372036854775808 ≤ n) (h1 : n ≤ 9223372036854775807) (w : World) (htab : Lib.TabIs Tryz.prog w "internal/strconv.uint64pow10" .u64 Lib.pow10Tab) :
    Calls Tryz.prog 34 #[.int .i64 n] w fun e w' => e = .returned (.string ⟨(Lib.itoa n).toArray⟩) ∧ ∃ k os, w' = grow (w.drewN k) os := Any.strconv_Itoa Tryz.laysM171 n h0 h1 w htab
def Tryz.laysC172_ren : Go.Shelf.Ren := ⟨fun | 172 => 66 | 244 => 113 | 245 => 114 | 247 => 147 | 279 => 148 | 280 => 149 | 281 => 150 | 282 => 151 | 287 => 174 | 316 => 175 | 171 => 34 | 205 => 176 | 321 => 190 | 322 => 191 | 243 => 82 | 246 => 121 | 283 => 154 | 284 => 155 | 285 => 156 | 286 => 157 | 129 => 179 | 317 => 178 | 318 => 180 | 319 => 181 | 320 => 182 | 337 => 192 | 338 => 193 | n => n, fun | 9 => 9 | 3 => 3 | 75 => 89 | 76 => 90 | 4 => 4 | 5 => 5 | 167 => 208 | 37 => 72 | 0 => 0 | 85 => 209 | 2 => 2 | 168 => 211 | 53 => 178 | 175 => 228 | 46 => 185 | 210 => 232 | 127 => 144 | 145 => 253 | 143 => 251 | 21 => 21 | 171 => 214 | 173 => 216 | 212 => 236 | 51 => 237 | 20 => 20 | 213 => 238 | 232 => 254 | 233 => 255 | 80 => 93 | n => n, fun | 15 => 3 | 16 => 4 | 17 => 5 | 18 => 8 | 19 => 9 | n => n⟩
theorem Tryz.laysC172 : Go.Proofs.LaysC.n172 Tryz.prog Tryz.laysC172_ren := {
  mixed := by kernel_rfl
  f129 := Tryz.func179.trans (congrArg some (by kernel_rfl))
  f171 := Tryz.func34.trans (congrArg some (by kernel_rfl))
  f172 := Tryz.func66.trans (congrArg some (by kernel_rfl))
  f205 := Tryz.func176.trans (congrArg some (by kernel_rfl))
  f243 := Tryz.func82.trans (congrArg some (by kernel_rfl))
  f244 := Tryz.func113.trans (congrArg some (by kernel_rfl))
  f245 := Tryz.func114.trans (congrArg some (by kernel_rfl))
  f246 := Tryz.func121.trans (congrArg some (by kernel_rfl))
  f247 := Tryz.func147.trans (congrArg some (by kernel_rfl))
  f279 := Tryz.func148.trans (congrArg some (by kernel_rfl))
  f280 := Tryz.func149.trans (congrArg some (by kernel_rfl))
  f281 := Tryz.func150.trans (congrArg some (by kernel_rfl))
  f282 := Tryz.func151.trans (congrArg some (by kernel_rfl))
  f283 := Tryz.func154.trans (congrArg some (by kernel_rfl))
  f284 := Tryz.func155.trans (congrArg some (by kernel_rfl))
  f285 := Tryz.func156.trans (congrArg some (by kernel_rfl))
  f286 := Tryz.func157.trans (congrArg some (by kernel_rfl))
  f287 := Tryz.func174.trans (congrArg some (by kernel_rfl))
  f316 := Tryz.func175.trans (congrArg some (by kernel_rfl))
  f317 := Tryz.func178.trans (congrArg some (by kernel_rfl))
  f318 := Tryz.func180.trans (congrArg some (by kernel_rfl))
  f319 := Tryz.func181.trans (congrArg some (by kernel_rfl))
  f320 := Tryz.func182.trans (congrArg some (by kernel_rfl))
  f321 := Tryz.func190.trans (congrArg some (by kernel_rfl))
  f322 := Tryz.func191.trans (congrArg some (by kernel_rfl))
  f337 := Tryz.func192.trans (congrArg some (by kernel_rfl))
  f338 := Tryz.func193.trans (congrArg some (by kernel_rfl))
  t0 := Tryz.underlying0
  a0 := Tryz.isAgg0
  z0 := Tryz.sizeOf0
  v0 := Tryz.zeroValue0
  t2 := Tryz.underlying2
  a2 := Tryz.isAgg2
  z2 := Tryz.sizeOf2
  v2 := Tryz.zeroValue2
  t3 := Tryz.underlying3
  a3 := Tryz.isAgg3
  z3 := Tryz.sizeOf3
  v3 := Tryz.zeroValue3
  t4 := Tryz.underlying4
  a4 := Tryz.isAgg4
  z4 := Tryz.sizeOf4
  v4 := Tryz.zeroValue4
  t5 := Tryz.underlying5
  a5 := Tryz.isAgg5
  z5 := Tryz.sizeOf5
  v5 := Tryz.zeroValue5
  t9 := Tryz.underlying9
  a9 := Tryz.isAgg9
  z9 := Tryz.sizeOf9
  v9 := Tryz.zeroValue9
  t20 := Tryz.underlying20
  a20 := Tryz.isAgg20
  z20 := Tryz.sizeOf20
  v20 := Tryz.zeroValue20
  t21 := Tryz.underlying21
  a21 := Tryz.isAgg21
  z21 := Tryz.sizeOf21
  v21 := Tryz.zeroValue21
  t37 := Tryz.underlying72
  a37 := Tryz.isAgg72
  z37 := Tryz.sizeOf72
  v37 := Tryz.zeroValue72
  t46 := Tryz.underlying185
  a46 := Tryz.isAgg185
  z46 := Tryz.sizeOf185
  v46 := Tryz.zeroValue185
  t51 := Tryz.underlying237
  a51 := Tryz.isAgg237
  z51 := Tryz.sizeOf237
  v51 := Tryz.zeroValue237
  t53 := Tryz.underlying178
  a53 := Tryz.isAgg178
  z53 := Tryz.sizeOf178
  v53 := Tryz.zeroValue178
  t75 := Tryz.underlying89
  a75 := Tryz.isAgg89
  z75 := Tryz.sizeOf89
  v75 := Tryz.zeroValue89
  t76 := Tryz.underlying90
  a76 := Tryz.isAgg90
  z76 := Tryz.sizeOf90
  v76 := Tryz.zeroValue90
  t85 := Tryz.underlying209
  a85 := Tryz.isAgg209
  z85 := Tryz.sizeOf209
  v85 := Tryz.zeroValue209
  t127 := Tryz.underlying144
  a127 := Tryz.isAgg144
  z127 := Tryz.sizeOf144
  v127 := Tryz.zeroValue144
  t143 := Tryz.underlying251
  a143 := Tryz.isAgg251
  z143 := Tryz.sizeOf251
  v143 := Tryz.zeroValue251
  t145 := Tryz.underlying253
  a145 := Tryz.isAgg253
  z145 := Tryz.sizeOf253
  v145 := Tryz.zeroValue253
  t167 := Tryz.underlying208
  a167 := Tryz.isAgg208
  z167 := Tryz.sizeOf208
  v167 := Tryz.zeroValue208
  t168 := Tryz.underlying211
  a168 := Tryz.isAgg211
  z168 := Tryz.sizeOf211
  v168 := Tryz.zeroValue211
  t171 := Tryz.underlying214
  a171 := Tryz.isAgg214
  z171 := Tryz.sizeOf214
  v171 := Tryz.zeroValue214
  t173 := Tryz.underlying216
  a173 := Tryz.isAgg216
  z173 := Tryz.sizeOf216
  v173 := Tryz.zeroValue216
  t175 := Tryz.underlying228
  a175 := Tryz.isAgg228
  z175 := Tryz.sizeOf228
  v175 := Tryz.zeroValue228
  t210 := Tryz.underlying232
  a210 := Tryz.isAgg232
  z210 := Tryz.sizeOf232
  v210 := Tryz.zeroValue232
  t212 := Tryz.underlying236
  a212 := Tryz.isAgg236
  z212 := Tryz.sizeOf236
  v212 := Tryz.zeroValue236
  t213 := Tryz.underlying238
  a213 := Tryz.isAgg238
  z213 := Tryz.sizeOf238
  t232 := Tryz.underlying254
  a232 := Tryz.isAgg254
  z232 := Tryz.sizeOf254
  v232 := Tryz.zeroValue254
  t233 := Tryz.underlying255
  a233 := Tryz.isAgg255
  z233 := Tryz.sizeOf255
  v233 := Tryz.zeroValue255
  g15 := by kernel_rfl
  g16 := by kernel_rfl
  g17 := by kernel_rfl
  g18 := by kernel_rfl
  g19 := by kernel_rfl
  t80 := Tryz.underlying93
  a80 := Tryz.isAgg93
  z80 := Tryz.sizeOf93
  v80 := Tryz.zeroValue93
  i0 := by kernel_rfl
  i2 := by kernel_rfl
  i3 := by kernel_rfl
  i4 := by kernel_rfl
  i5 := by kernel_rfl
  i9 := by kernel_rfl
  i20 := by kernel_rfl
  i21 := by kernel_rfl
  i37 := by kernel_rfl
  i46 := by kernel_rfl
  i51 := by kernel_rfl
  i53 := by kernel_rfl
  i75 := by kernel_rfl
  i76 := by kernel_rfl
  i80 := by kernel_rfl
  i85 := by kernel_rfl
  i127 := by kernel_rfl
  i143 := by kernel_rfl
  i145 := by kernel_rfl
  i167 := by kernel_rfl
  i168 := by kernel_rfl
  i171 := by kernel_rfl
  i173 := by kernel_rfl
  i175 := by kernel_rfl
  i210 := by kernel_rfl
  i212 := by kernel_rfl
  i232 := by kernel_rfl
  i233 := by kernel_rfl
  m15 := by kernel_rfl
  m16 := by kernel_rfl
  m17 := by kernel_rfl
  m18 := by kernel_rfl
  m19 := by kernel_rfl
  c0 := by kernel_rfl
  c2 := by kernel_rfl
  c3 := by kernel_rfl
  c4 := by kernel_rfl
  c5 := by kernel_rfl
  c9 := by kernel_rfl
  c20 := by kernel_rfl
  c21 := by kernel_rfl
  c37 := by kernel_rfl
  c46 := by kernel_rfl
  c51 := by kernel_rfl
  c53 := by kernel_rfl
  c75 := by kernel_rfl
  c76 := by kernel_rfl
  c80 := by kernel_rfl
  c85 := by kernel_rfl
  c127 := by kernel_rfl
  c143 := by kernel_rfl
  c145 := by kernel_rfl
  c167 := by kernel_rfl
  c168 := by kernel_rfl
  c171 := by kernel_rfl
  c173 := by kernel_rfl
  c175 := by kernel_rfl
  c210 := by kernel_rfl
  c212 := by kernel_rfl
  c213 := by kernel_rfl
  c232 := by kernel_rfl
  c233 := by kernel_rfl }
def Tryz.lays143_ren : Go.Shelf.Ren := ⟨fun | 143 => 140 | 219 => 141 | 217 => 167 | 225 => 168 | 224 => 169 | 267 => 170 | 266 => 187 | 314 => 188 | n => n, fun | 9 => 9 | 3 => 3 | 4 => 4 | 5 => 5 | 46 => 185 | 146 => 247 | 51 => 237 | n => n, fun | 1 => 2 | n => n⟩
theorem Tryz.lays143 : Go.Proofs.Lays.n143 Tryz.prog Tryz.lays143_ren := {
  mixed := by kernel_rfl
  f143 := Tryz.func140.trans (congrArg some (by kernel_rfl))
  f217 := Tryz.func167.trans (congrArg some (by kernel_rfl))
  f219 := Tryz.func141.trans (congrArg some (by kernel_rfl))
  f224 := Tryz.func169.trans (congrArg some (by kernel_rfl))
  f225 := Tryz.func168.trans (congrArg some (by kernel_rfl))
  f266 := Tryz.func187.trans (congrArg some (by kernel_rfl))
  f267 := Tryz.func170.trans (congrArg some (by kernel_rfl))
  f314 := Tryz.func188.trans (congrArg some (by kernel_rfl))
  t3 := Tryz.underlying3
  a3 := Tryz.isAgg3
  z3 := Tryz.sizeOf3
  v3 := Tryz.zeroValue3
  t4 := Tryz.underlying4
  a4 := Tryz.isAgg4
  z4 := Tryz.sizeOf4
  v4 := Tryz.zeroValue4
  t5 := Tryz.underlying5
  a5 := Tryz.isAgg5
  z5 := Tryz.sizeOf5
  v5 := Tryz.zeroValue5
  t9 := Tryz.underlying9
  a9 := Tryz.isAgg9
  z9 := Tryz.sizeOf9
  v9 := Tryz.zeroValue9
  t46 := Tryz.underlying185
  a46 := Tryz.isAgg185
  z46 := Tryz.sizeOf185
  v46 := Tryz.zeroValue185
  t51 := Tryz.underlying237
  a51 := Tryz.isAgg237
  z51 := Tryz.sizeOf237
  v51 := Tryz.zeroValue237
  t146 := Tryz.underlying247
  a146 := Tryz.isAgg247
  z146 := Tryz.sizeOf247
  v146 := Tryz.zeroValue247
  g1 := by kernel_rfl }
open Go.RowKit Go.Lib in
/-- strings.Index: "Index returns the index of the first instance of substr in s, or -1 if substr is not present in s.": AT A substr OF ONE BYTE c: IT RETURNS 'Lib.indexByte s c'; the world is as it was. (LAID: no walk: one application.) -/
theorem Tryz.strings_Index_one (s : ByteArray) (c : UInt8) (w : World) :
    Calls Tryz.prog 140 #[.string s, .string ⟨#[c]⟩] w fun e w' => e = .returned (.int .i64 (Lib.indexByte s.data.toList c)) ∧ w' = w := Any.strings_Index_one Tryz.lays143 s c w
def Tryz.lays145_ren : Go.Shelf.Ren := ⟨fun | 145 => 53 | 220 => 105 | 219 => 141 | 217 => 167 | 225 => 168 | 224 => 169 | 267 => 170 | 266 => 187 | 314 => 188 | n => n, fun | 9 => 9 | 4 => 4 | 59 => 106 | 3 => 3 | 5 => 5 | 46 => 185 | 146 => 247 | 51 => 237 | n => n, fun | 1 => 2 | n => n⟩
theorem Tryz.lays145 : Go.Proofs.Lays.n145 Tryz.prog Tryz.lays145_ren := {
  mixed := by kernel_rfl
  f145 := Tryz.func53.trans (congrArg some (by kernel_rfl))
  f217 := Tryz.func167.trans (congrArg some (by kernel_rfl))
  f219 := Tryz.func141.trans (congrArg some (by kernel_rfl))
  f220 := Tryz.func105.trans (congrArg some (by kernel_rfl))
  f224 := Tryz.func169.trans (congrArg some (by kernel_rfl))
  f225 := Tryz.func168.trans (congrArg some (by kernel_rfl))
  f266 := Tryz.func187.trans (congrArg some (by kernel_rfl))
  f267 := Tryz.func170.trans (congrArg some (by kernel_rfl))
  f314 := Tryz.func188.trans (congrArg some (by kernel_rfl))
  t3 := Tryz.underlying3
  a3 := Tryz.isAgg3
  z3 := Tryz.sizeOf3
  v3 := Tryz.zeroValue3
  t4 := Tryz.underlying4
  a4 := Tryz.isAgg4
  z4 := Tryz.sizeOf4
  v4 := Tryz.zeroValue4
  t5 := Tryz.underlying5
  a5 := Tryz.isAgg5
  z5 := Tryz.sizeOf5
  v5 := Tryz.zeroValue5
  t9 := Tryz.underlying9
  a9 := Tryz.isAgg9
  z9 := Tryz.sizeOf9
  v9 := Tryz.zeroValue9
  t46 := Tryz.underlying185
  a46 := Tryz.isAgg185
  z46 := Tryz.sizeOf185
  v46 := Tryz.zeroValue185
  t51 := Tryz.underlying237
  a51 := Tryz.isAgg237
  z51 := Tryz.sizeOf237
  v51 := Tryz.zeroValue237
  t59 := Tryz.underlying106
  a59 := Tryz.isAgg106
  z59 := Tryz.sizeOf106
  v59 := Tryz.zeroValue106
  t146 := Tryz.underlying247
  a146 := Tryz.isAgg247
  z146 := Tryz.sizeOf247
  v146 := Tryz.zeroValue247
  g1 := by kernel_rfl }
open Go.RowKit Go.Lib in
/-- strings.Cut: "Cut slices s around the first instance of sep, returning the text before and after sep. The found result reports whether sep appears in s. If sep does not appear in s, cut returns s, "", false.": IT RETURNS 'Lib.cut s sep'; the world is as it was but for the count of draws. (LAID: no walk: one application.) -/
theorem Tryz.strings_Cut (s sep : ByteArray) (m : Int) (w : World) (hs : s.size < 4294967281) (hm : w.cell? ⟨2, 0, none⟩ = some (.int .i64 m)) :
    Calls Tryz.prog 53 #[.string s, .string sep] w fun e w' => e = .returned (.tuple #[.string ⟨(Lib.cut s.data.toList sep.data.toList).1.toArray⟩, .string ⟨(Lib.cut s.data.toList sep.data.toList).2.1.toArray⟩, .bool (Lib.cut s.data.toList sep.data.toList).2.2]) ∧ ∃ n, w' = w.drewN n := Any.strings_Cut Tryz.lays145 s sep m w hs hm
def Tryz.lays146_ren : Go.Shelf.Ren := ⟨fun | 146 => 61 | 221 => 110 | 268 => 145 | 138 => 146 | 143 => 140 | 195 => 172 | 197 => 139 | 218 => 173 | 219 => 141 | 260 => 166 | 217 => 167 | 225 => 168 | 224 => 169 | 267 => 170 | 266 => 187 | 314 => 188 | n => n, fun | 9 => 9 | 31 => 36 | 3 => 3 | 4 => 4 | 0 => 0 | 105 => 203 | 21 => 21 | 5 => 5 | 46 => 185 | 119 => 243 | 139 => 246 | 138 => 245 | 146 => 247 | 51 => 237 | n => n, fun | 1 => 2 | 3 => 6 | 4 => 7 | n => n⟩
theorem Tryz.lays146 : Go.Proofs.Lays.n146 Tryz.prog Tryz.lays146_ren := {
  mixed := by kernel_rfl
  f138 := Tryz.func146.trans (congrArg some (by kernel_rfl))
  f143 := Tryz.func140.trans (congrArg some (by kernel_rfl))
  f146 := Tryz.func61.trans (congrArg some (by kernel_rfl))
  f195 := Tryz.func172.trans (congrArg some (by kernel_rfl))
  f197 := Tryz.func139.trans (congrArg some (by kernel_rfl))
  f217 := Tryz.func167.trans (congrArg some (by kernel_rfl))
  f218 := Tryz.func173.trans (congrArg some (by kernel_rfl))
  f219 := Tryz.func141.trans (congrArg some (by kernel_rfl))
  f221 := Tryz.func110.trans (congrArg some (by kernel_rfl))
  f224 := Tryz.func169.trans (congrArg some (by kernel_rfl))
  f225 := Tryz.func168.trans (congrArg some (by kernel_rfl))
  f260 := Tryz.func166.trans (congrArg some (by kernel_rfl))
  f266 := Tryz.func187.trans (congrArg some (by kernel_rfl))
  f267 := Tryz.func170.trans (congrArg some (by kernel_rfl))
  f268 := Tryz.func145.trans (congrArg some (by kernel_rfl))
  f314 := Tryz.func188.trans (congrArg some (by kernel_rfl))
  t0 := Tryz.underlying0
  a0 := Tryz.isAgg0
  z0 := Tryz.sizeOf0
  v0 := Tryz.zeroValue0
  t3 := Tryz.underlying3
  a3 := Tryz.isAgg3
  z3 := Tryz.sizeOf3
  v3 := Tryz.zeroValue3
  t4 := Tryz.underlying4
  a4 := Tryz.isAgg4
  z4 := Tryz.sizeOf4
  v4 := Tryz.zeroValue4
  t5 := Tryz.underlying5
  a5 := Tryz.isAgg5
  z5 := Tryz.sizeOf5
  v5 := Tryz.zeroValue5
  t9 := Tryz.underlying9
  a9 := Tryz.isAgg9
  z9 := Tryz.sizeOf9
  v9 := Tryz.zeroValue9
  t21 := Tryz.underlying21
  a21 := Tryz.isAgg21
  z21 := Tryz.sizeOf21
  v21 := Tryz.zeroValue21
  t31 := Tryz.underlying36
  a31 := Tryz.isAgg36
  z31 := Tryz.sizeOf36
  v31 := Tryz.zeroValue36
  t46 := Tryz.underlying185
  a46 := Tryz.isAgg185
  z46 := Tryz.sizeOf185
  v46 := Tryz.zeroValue185
  t51 := Tryz.underlying237
  a51 := Tryz.isAgg237
  z51 := Tryz.sizeOf237
  v51 := Tryz.zeroValue237
  t105 := Tryz.underlying203
  a105 := Tryz.isAgg203
  z105 := Tryz.sizeOf203
  v105 := Tryz.zeroValue203
  t119 := Tryz.underlying243
  a119 := Tryz.isAgg243
  z119 := Tryz.sizeOf243
  t138 := Tryz.underlying245
  a138 := Tryz.isAgg245
  z138 := Tryz.sizeOf245
  v138 := Tryz.zeroValue245
  t139 := Tryz.underlying246
  a139 := Tryz.isAgg246
  z139 := Tryz.sizeOf246
  v139 := Tryz.zeroValue246
  t146 := Tryz.underlying247
  a146 := Tryz.isAgg247
  z146 := Tryz.sizeOf247
  v146 := Tryz.zeroValue247
  g1 := by kernel_rfl
  g3 := by kernel_rfl
  g4 := by kernel_rfl }
open Go.RowKit Go.Lib in
/-- strings.Split. (LAID: no walk: one application.) -/
theorem Tryz.strings_Split (s sep : ByteArray) (m : Int) (w : World) (hs : s.size < 4294967281) (hm : w.cell? ⟨2, 0, none⟩ = some (.int .i64 m)) (h1 : 1 ≤ sep.size) :
    Calls Tryz.prog 61 #[.string s, .string sep] w fun e w' =>
      e = .returned (.slice (some ⟨w.heap.size, 0, none⟩) (Lib.countB s sep + 1) (Lib.countB s sep + 1)) ∧ w' = w.alloc (.cells ((Lib.splitB sep 0 (Lib.countB s sep) s).map Value.string).toArray 9) := Any.strings_Split Tryz.lays146 (by kernel_rfl) s sep m w hs hm h1
def Tryz.lays109_ren : Go.Shelf.Ren := ⟨fun | 109 => 62 | n => n, fun | 31 => 36 | 9 => 9 | 3 => 3 | 0 => 0 | 4 => 4 | n => n, fun | n => n⟩
theorem Tryz.lays109 : Go.Proofs.Lays.n109 Tryz.prog Tryz.lays109_ren := {
  mixed := by kernel_rfl
  f109 := Tryz.func62.trans (congrArg some (by kernel_rfl))
  t0 := Tryz.underlying0
  a0 := Tryz.isAgg0
  z0 := Tryz.sizeOf0
  v0 := Tryz.zeroValue0
  t3 := Tryz.underlying3
  a3 := Tryz.isAgg3
  z3 := Tryz.sizeOf3
  v3 := Tryz.zeroValue3
  t4 := Tryz.underlying4
  a4 := Tryz.isAgg4
  z4 := Tryz.sizeOf4
  v4 := Tryz.zeroValue4
  t9 := Tryz.underlying9
  a9 := Tryz.isAgg9
  z9 := Tryz.sizeOf9
  v9 := Tryz.zeroValue9
  t31 := Tryz.underlying36
  a31 := Tryz.isAgg36
  z31 := Tryz.sizeOf36
  v31 := Tryz.zeroValue36 }
open Go.Lib in
/-- slices.Index at []string: "Index returns the index of the first occurrence of v in s, or -1 if not present.": IT RETURNS 'Lib.idxOfS (the elements) v'; the world is as it was. 'zs': what the cells behind the slice's address hold (its spare capacity too, if you have it); 'zs.take n': its elements. (LAID: no walk: one application.) -/
theorem Tryz.slices_Index_string (b off n c : Nat) (zs : List ByteArray) (x : ByteArray) (w : World) (hz : n ≤ zs.length) (hbig : n ≤ 9223372036854775807) (hc : ∀ j, j < zs.length → w.cell? ⟨b, off + j, none⟩ = some (.string (zs.getD j ByteArray.empty))) :
    Calls Tryz.prog 62 #[.slice (some ⟨b, off, none⟩) n c, .string x] w fun e w' => e = .returned (.int .i64 (Lib.idxOfS (zs.take n) x)) ∧ w' = w := Any.slices_Index_string Tryz.lays109 b off n c zs x w hz hbig hc
def Tryz.laysSlE35_f111_ren : Go.Shelf.Ren := ⟨fun | 35 => 111 | n => n, fun | 22 => 159 | 23 => 160 | 3 => 3 | 4 => 4 | 0 => 0 | n => n, fun | n => n⟩
theorem Tryz.laysSlE35_f111 : Go.Proofs.SlLaysE.n35 Tryz.prog Tryz.laysSlE35_f111_ren := {
  mixed := by kernel_rfl
  f35 := ⟨Tryz.f111.name, by decide, Tryz.func111.trans (congrArg some (by kernel_rfl))⟩
  t0 := Tryz.underlying0
  a0 := Tryz.isAgg0
  z0 := Tryz.sizeOf0
  v0 := Tryz.zeroValue0
  t3 := Tryz.underlying3
  a3 := Tryz.isAgg3
  z3 := Tryz.sizeOf3
  v3 := Tryz.zeroValue3
  t4 := Tryz.underlying4
  a4 := Tryz.isAgg4
  z4 := Tryz.sizeOf4
  v4 := Tryz.zeroValue4
  t22 := Tryz.underlying159
  a22 := Tryz.isAgg159
  z22 := Tryz.sizeOf159
  v22 := Tryz.zeroValue159
  a23 := Tryz.isAgg160
  z23 := Tryz.sizeOf160 }
open Go.RowKit Go.Lib Go.Sort in
/-- slices.Reverse: "Reverse reverses the elements of the slice in place.": THE SLICE's CELLS HOLD 'zs.reverse' BEHIND THE CALL; all else is as it was, but for the count of draws (the exchange 's[i], s[j] = s[j], s[i]' draws its order, once a round). IN THE WORDS OF slices.Sort's CONTRACT: 'Holds': the cells hold zs and none is frozen; 'putRow': the world with those cells holding another array. A slice of length 0 that is not nil is among them ('zs = []'); nil: '.._nil'. (LAID AT THE INSTANCE 'slices.Reverse[[]*int,*int]': no walk: one application.) -/
theorem Tryz.slices_Reverse {α : Type} [Inhabited α] (enc : α → Value) (h1 : OneCell enc) (blk off cap : Nat) (zs : List α) (w : World) (hH : Holds enc w blk off zs.toArray) (hsz : zs.length ≤ 9223372036854775807) :
    Calls Tryz.prog 111 #[.slice (some ⟨blk, off, none⟩) zs.length cap] w fun e w' => e = .returned (.tuple #[]) ∧ ∃ n, w' = putRow enc (Sort.ahead w n) blk off zs.reverse.toArray := AnyE.slices_Reverse Tryz.laysSlE35_f111 enc h1 blk off cap zs w hH hsz
end Go.Proofs
