/-
  The dump's head as a list of signs: so that the facts on it are reckoned without decoding a string.
  Conditions: none.
-/
import Derived.Test.YtdldochhondifaaDoorRows
import Derived.JoinedOf
import Derived.KernelRfl
namespace Go.Proofs.YtdldochhondifaaDoor
open Go
set_option maxRecDepth 100000 in
theorem headIs : Tryd.prog.initOrder = String.ofList [Char.ofNat 104, Char.ofNat 97, Char.ofNat 114, Char.ofNat 110, Char.ofNat 101, Char.ofNat 115, Char.ofNat 115, Char.ofNat 32, Char.ofNat 53, Char.ofNat 52, Char.ofNat 49, Char.ofNat 56, Char.ofNat 100, Char.ofNat 53, Char.ofNat 56, Char.ofNat 101, Char.ofNat 102, Char.ofNat 57, Char.ofNat 52, Char.ofNat 100, Char.ofNat 101, Char.ofNat 54, Char.ofNat 101, Char.ofNat 48, Char.ofNat 53, Char.ofNat 101, Char.ofNat 55, Char.ofNat 51, Char.ofNat 99, Char.ofNat 56, Char.ofNat 57, Char.ofNat 55, Char.ofNat 54, Char.ofNat 55, Char.ofNat 101, Char.ofNat 56, Char.ofNat 49, Char.ofNat 50, Char.ofNat 101, Char.ofNat 97, Char.ofNat 53, Char.ofNat 54, Char.ofNat 50, Char.ofNat 99, Char.ofNat 51, Char.ofNat 55, Char.ofNat 100, Char.ofNat 52, Char.ofNat 56, Char.ofNat 102, Char.ofNat 97, Char.ofNat 97, Char.ofNat 49, Char.ofNat 48, Char.ofNat 49, Char.ofNat 50, Char.ofNat 98, Char.ofNat 56, Char.ofNat 53, Char.ofNat 56, Char.ofNat 50, Char.ofNat 51, Char.ofNat 48, Char.ofNat 52, Char.ofNat 49, Char.ofNat 99, Char.ofNat 98, Char.ofNat 54, Char.ofNat 48, Char.ofNat 102, Char.ofNat 102, Char.ofNat 53, Char.ofNat 32, Char.ofNat 99, Char.ofNat 117, Char.ofNat 116, Char.ofNat 32, Char.ofNat 97, Char.ofNat 116, Char.ofNat 32, Char.ofNat 116, Char.ofNat 117, Char.ofNat 114, Char.ofNat 110, Char.ofNat 101, Char.ofNat 114, Char.ofNat 121, Char.ofNat 47, Char.ofNat 116, Char.ofNat 117, Char.ofNat 114, Char.ofNat 110, Char.ofNat 101, Char.ofNat 114, Char.ofNat 121, Char.ofNat 108, Char.ofNat 97, Char.ofNat 119, Char.ofNat 55, Char.ofNat 46, Char.ofNat 65, Char.ofNat 115, Char.ofNat 109, Char.ofNat 84, Char.ofNat 101, Char.ofNat 120, Char.ofNat 116, Char.ofNat 83, Char.ofNat 97, Char.ofNat 121, Char.ofNat 115, Char.ofNat 32, Char.ofNat 116, Char.ofNat 117, Char.ofNat 114, Char.ofNat 110, Char.ofNat 101, Char.ofNat 114, Char.ofNat 121, Char.ofNat 47, Char.ofNat 116, Char.ofNat 117, Char.ofNat 114, Char.ofNat 110, Char.ofNat 101, Char.ofNat 114, Char.ofNat 121, Char.ofNat 108, Char.ofNat 97, Char.ofNat 119, Char.ofNat 55, Char.ofNat 46, Char.ofNat 65, Char.ofNat 115, Char.ofNat 109, Char.ofNat 65, Char.ofNat 112, Char.ofNat 97, Char.ofNat 114, Char.ofNat 116, Char.ofNat 83, Char.ofNat 97, Char.ofNat 121, Char.ofNat 115] := by kernel_rfl
set_option maxRecDepth 100000 in
theorem headWords : wordsSigns Tryd.prog.initOrder.toList = [[Char.ofNat 104, Char.ofNat 97, Char.ofNat 114, Char.ofNat 110, Char.ofNat 101, Char.ofNat 115, Char.ofNat 115], [Char.ofNat 53, Char.ofNat 52, Char.ofNat 49, Char.ofNat 56, Char.ofNat 100, Char.ofNat 53, Char.ofNat 56, Char.ofNat 101, Char.ofNat 102, Char.ofNat 57, Char.ofNat 52, Char.ofNat 100, Char.ofNat 101, Char.ofNat 54, Char.ofNat 101, Char.ofNat 48, Char.ofNat 53, Char.ofNat 101, Char.ofNat 55, Char.ofNat 51, Char.ofNat 99, Char.ofNat 56, Char.ofNat 57, Char.ofNat 55, Char.ofNat 54, Char.ofNat 55, Char.ofNat 101, Char.ofNat 56, Char.ofNat 49, Char.ofNat 50, Char.ofNat 101, Char.ofNat 97, Char.ofNat 53, Char.ofNat 54, Char.ofNat 50, Char.ofNat 99, Char.ofNat 51, Char.ofNat 55, Char.ofNat 100, Char.ofNat 52, Char.ofNat 56, Char.ofNat 102, Char.ofNat 97, Char.ofNat 97, Char.ofNat 49, Char.ofNat 48, Char.ofNat 49, Char.ofNat 50, Char.ofNat 98, Char.ofNat 56, Char.ofNat 53, Char.ofNat 56, Char.ofNat 50, Char.ofNat 51, Char.ofNat 48, Char.ofNat 52, Char.ofNat 49, Char.ofNat 99, Char.ofNat 98, Char.ofNat 54, Char.ofNat 48, Char.ofNat 102, Char.ofNat 102, Char.ofNat 53], [Char.ofNat 99, Char.ofNat 117, Char.ofNat 116], [Char.ofNat 97, Char.ofNat 116], [Char.ofNat 116, Char.ofNat 117, Char.ofNat 114, Char.ofNat 110, Char.ofNat 101, Char.ofNat 114, Char.ofNat 121, Char.ofNat 47, Char.ofNat 116, Char.ofNat 117, Char.ofNat 114, Char.ofNat 110, Char.ofNat 101, Char.ofNat 114, Char.ofNat 121, Char.ofNat 108, Char.ofNat 97, Char.ofNat 119, Char.ofNat 55, Char.ofNat 46, Char.ofNat 65, Char.ofNat 115, Char.ofNat 109, Char.ofNat 84, Char.ofNat 101, Char.ofNat 120, Char.ofNat 116, Char.ofNat 83, Char.ofNat 97, Char.ofNat 121, Char.ofNat 115], [Char.ofNat 116, Char.ofNat 117, Char.ofNat 114, Char.ofNat 110, Char.ofNat 101, Char.ofNat 114, Char.ofNat 121, Char.ofNat 47, Char.ofNat 116, Char.ofNat 117, Char.ofNat 114, Char.ofNat 110, Char.ofNat 101, Char.ofNat 114, Char.ofNat 121, Char.ofNat 108, Char.ofNat 97, Char.ofNat 119, Char.ofNat 55, Char.ofNat 46, Char.ofNat 65, Char.ofNat 115, Char.ofNat 109, Char.ofNat 65, Char.ofNat 112, Char.ofNat 97, Char.ofNat 114, Char.ofNat 116, Char.ofNat 83, Char.ofNat 97, Char.ofNat 121, Char.ofNat 115]] := by
  rw [headIs, String.toList_ofList]
  kernel_rfl
theorem lw_finals : "finals".toList = [Char.ofNat 102, Char.ofNat 105, Char.ofNat 110, Char.ofNat 97, Char.ofNat 108, Char.ofNat 115] := String.toList_ofList
theorem lw_reflectrows : "reflectrows".toList = [Char.ofNat 114, Char.ofNat 101, Char.ofNat 102, Char.ofNat 108, Char.ofNat 101, Char.ofNat 99, Char.ofNat 116, Char.ofNat 114, Char.ofNat 111, Char.ofNat 119, Char.ofNat 115] := String.toList_ofList
theorem lw_leanrows : "leanrows".toList = [Char.ofNat 108, Char.ofNat 101, Char.ofNat 97, Char.ofNat 110, Char.ofNat 114, Char.ofNat 111, Char.ofNat 119, Char.ofNat 115] := String.toList_ofList
theorem lw_onebuild : "onebuild".toList = [Char.ofNat 111, Char.ofNat 110, Char.ofNat 101, Char.ofNat 98, Char.ofNat 117, Char.ofNat 105, Char.ofNat 108, Char.ofNat 100] := String.toList_ofList
theorem lw_publicsums : "publicsums".toList = [Char.ofNat 112, Char.ofNat 117, Char.ofNat 98, Char.ofNat 108, Char.ofNat 105, Char.ofNat 99, Char.ofNat 115, Char.ofNat 117, Char.ofNat 109, Char.ofNat 115] := String.toList_ofList
theorem lw_eqguard : "eqguard".toList = [Char.ofNat 101, Char.ofNat 113, Char.ofNat 103, Char.ofNat 117, Char.ofNat 97, Char.ofNat 114, Char.ofNat 100] := String.toList_ofList
theorem lw_ownunsafe : "ownunsafe".toList = [Char.ofNat 111, Char.ofNat 119, Char.ofNat 110, Char.ofNat 117, Char.ofNat 110, Char.ofNat 115, Char.ofNat 97, Char.ofNat 102, Char.ofNat 101] := String.toList_ofList
theorem lw_libbeside : "libbeside".toList = [Char.ofNat 108, Char.ofNat 105, Char.ofNat 98, Char.ofNat 98, Char.ofNat 101, Char.ofNat 115, Char.ofNat 105, Char.ofNat 100, Char.ofNat 101] := String.toList_ofList
theorem lw_ownbeside : "ownbeside".toList = [Char.ofNat 111, Char.ofNat 119, Char.ofNat 110, Char.ofNat 98, Char.ofNat 101, Char.ofNat 115, Char.ofNat 105, Char.ofNat 100, Char.ofNat 101] := String.toList_ofList
theorem lw_reflbeside : "reflbeside".toList = [Char.ofNat 114, Char.ofNat 101, Char.ofNat 102, Char.ofNat 108, Char.ofNat 98, Char.ofNat 101, Char.ofNat 115, Char.ofNat 105, Char.ofNat 100, Char.ofNat 101] := String.toList_ofList
theorem lw_aliases : "aliases".toList = [Char.ofNat 97, Char.ofNat 108, Char.ofNat 105, Char.ofNat 97, Char.ofNat 115, Char.ofNat 101, Char.ofNat 115] := String.toList_ofList
theorem lw_afterinit : "afterinit".toList = [Char.ofNat 97, Char.ofNat 102, Char.ofNat 116, Char.ofNat 101, Char.ofNat 114, Char.ofNat 105, Char.ofNat 110, Char.ofNat 105, Char.ofNat 116] := String.toList_ofList
theorem lw_crcplain : "crcplain".toList = [Char.ofNat 99, Char.ofNat 114, Char.ofNat 99, Char.ofNat 112, Char.ofNat 108, Char.ofNat 97, Char.ofNat 105, Char.ofNat 110] := String.toList_ofList
theorem lw_roadunsafe : "roadunsafe".toList = [Char.ofNat 114, Char.ofNat 111, Char.ofNat 97, Char.ofNat 100, Char.ofNat 117, Char.ofNat 110, Char.ofNat 115, Char.ofNat 97, Char.ofNat 102, Char.ofNat 101] := String.toList_ofList
theorem lw_fmthandon : "fmthandon".toList = [Char.ofNat 102, Char.ofNat 109, Char.ofNat 116, Char.ofNat 104, Char.ofNat 97, Char.ofNat 110, Char.ofNat 100, Char.ofNat 111, Char.ofNat 110] := String.toList_ofList
theorem lw_harness : "harness".toList = [Char.ofNat 104, Char.ofNat 97, Char.ofNat 114, Char.ofNat 110, Char.ofNat 101, Char.ofNat 115, Char.ofNat 115] := String.toList_ofList
theorem lw_ownmain : "ownmain".toList = [Char.ofNat 111, Char.ofNat 119, Char.ofNat 110, Char.ofNat 109, Char.ofNat 97, Char.ofNat 105, Char.ofNat 110] := String.toList_ofList
theorem lw_cut : "cut".toList = [Char.ofNat 99, Char.ofNat 117, Char.ofNat 116] := String.toList_ofList
theorem lw_gc : "gc".toList = [Char.ofNat 103, Char.ofNat 99] := String.toList_ofList
theorem lw_spec : "spec".toList = [Char.ofNat 115, Char.ofNat 112, Char.ofNat 101, Char.ofNat 99] := String.toList_ofList
theorem lw_stop : "stop".toList = [Char.ofNat 115, Char.ofNat 116, Char.ofNat 111, Char.ofNat 112] := String.toList_ofList
theorem lw_carried : "carried".toList = [Char.ofNat 99, Char.ofNat 97, Char.ofNat 114, Char.ofNat 114, Char.ofNat 105, Char.ofNat 101, Char.ofNat 100] := String.toList_ofList
set_option maxRecDepth 100000 in
theorem headStrip (rest : List (List Char)) : stripLifts liftWords ([Char.ofNat 99, Char.ofNat 117, Char.ofNat 116] :: rest) = ([], [Char.ofNat 99, Char.ofNat 117, Char.ofNat 116] :: rest) := by
  unfold liftWords
  simp only [stripLifts, lw_finals, lw_reflectrows, lw_leanrows, lw_onebuild, lw_publicsums, lw_eqguard, lw_ownunsafe, lw_libbeside, lw_ownbeside, lw_reflbeside, lw_aliases, lw_afterinit, lw_crcplain, lw_roadunsafe, lw_fmthandon]
  rfl
set_option maxRecDepth 100000 in
theorem headBehind : behindMainWord (wordsSigns Tryd.prog.initOrder.toList) = [[Char.ofNat 99, Char.ofNat 117, Char.ofNat 116], [Char.ofNat 97, Char.ofNat 116], [Char.ofNat 116, Char.ofNat 117, Char.ofNat 114, Char.ofNat 110, Char.ofNat 101, Char.ofNat 114, Char.ofNat 121, Char.ofNat 47, Char.ofNat 116, Char.ofNat 117, Char.ofNat 114, Char.ofNat 110, Char.ofNat 101, Char.ofNat 114, Char.ofNat 121, Char.ofNat 108, Char.ofNat 97, Char.ofNat 119, Char.ofNat 55, Char.ofNat 46, Char.ofNat 65, Char.ofNat 115, Char.ofNat 109, Char.ofNat 84, Char.ofNat 101, Char.ofNat 120, Char.ofNat 116, Char.ofNat 83, Char.ofNat 97, Char.ofNat 121, Char.ofNat 115], [Char.ofNat 116, Char.ofNat 117, Char.ofNat 114, Char.ofNat 110, Char.ofNat 101, Char.ofNat 114, Char.ofNat 121, Char.ofNat 47, Char.ofNat 116, Char.ofNat 117, Char.ofNat 114, Char.ofNat 110, Char.ofNat 101, Char.ofNat 114, Char.ofNat 121, Char.ofNat 108, Char.ofNat 97, Char.ofNat 119, Char.ofNat 55, Char.ofNat 46, Char.ofNat 65, Char.ofNat 115, Char.ofNat 109, Char.ofNat 65, Char.ofNat 112, Char.ofNat 97, Char.ofNat 114, Char.ofNat 116, Char.ofNat 83, Char.ofNat 97, Char.ofNat 121, Char.ofNat 115]] := by
  rw [headWords]
  unfold behindMainWord
  simp only [lw_harness, lw_ownmain]
  kernel_rfl
set_option maxRecDepth 100000 in
theorem headLifts : Tryd.prog.headLifts = [] := by
  rw [Program.headLifts.eq_1]
  rw [headBehind, headStrip, lw_cut]
  kernel_rfl
set_option maxRecDepth 100000 in
theorem factMake : Tryd.prog.make = some .cut := by
  rw [Program.make.eq_1]
  rw [headBehind]
  generalize Tryd.prog.headLifts = hl
  simp only [lw_gc, lw_spec, lw_cut, lw_carried, lw_finals]
  kernel_rfl
set_option maxRecDepth 100000 in
theorem factLifts : Tryd.prog.liftsFinal = false := by
  rw [Program.liftsFinal.eq_1]
  rw [headBehind, headLifts]
  kernel_rfl
set_option maxRecDepth 100000 in
theorem factLater : Tryd.prog.laysLater = false := by kernel_rfl
set_option maxRecDepth 100000 in
theorem factReflect : Tryd.prog.bearsReflect = false := by kernel_rfl
set_option maxRecDepth 100000 in
theorem factDoor : Tryd.prog.doorFits [] = true := by kernel_rfl
set_option maxRecDepth 100000 in
theorem factEnter : Tryd.prog.mayEnter = true := by
  rw [Program.mayEnter.eq_1]
  rw [headBehind]
  rw [factLater, factReflect]
  dsimp only
  rw [headStrip, factDoor]
  simp only [lw_gc, lw_spec, lw_cut, lw_carried, lw_stop]
  kernel_rfl
set_option maxRecDepth 100000 in
theorem headSum : "5418d58ef94de6e05e73c89767e812ea562c37d48faa1012b85823041cb60ff5".toList = [Char.ofNat 53, Char.ofNat 52, Char.ofNat 49, Char.ofNat 56, Char.ofNat 100, Char.ofNat 53, Char.ofNat 56, Char.ofNat 101, Char.ofNat 102, Char.ofNat 57, Char.ofNat 52, Char.ofNat 100, Char.ofNat 101, Char.ofNat 54, Char.ofNat 101, Char.ofNat 48, Char.ofNat 53, Char.ofNat 101, Char.ofNat 55, Char.ofNat 51, Char.ofNat 99, Char.ofNat 56, Char.ofNat 57, Char.ofNat 55, Char.ofNat 54, Char.ofNat 55, Char.ofNat 101, Char.ofNat 56, Char.ofNat 49, Char.ofNat 50, Char.ofNat 101, Char.ofNat 97, Char.ofNat 53, Char.ofNat 54, Char.ofNat 50, Char.ofNat 99, Char.ofNat 51, Char.ofNat 55, Char.ofNat 100, Char.ofNat 52, Char.ofNat 56, Char.ofNat 102, Char.ofNat 97, Char.ofNat 97, Char.ofNat 49, Char.ofNat 48, Char.ofNat 49, Char.ofNat 50, Char.ofNat 98, Char.ofNat 56, Char.ofNat 53, Char.ofNat 56, Char.ofNat 50, Char.ofNat 51, Char.ofNat 48, Char.ofNat 52, Char.ofNat 49, Char.ofNat 99, Char.ofNat 98, Char.ofNat 54, Char.ofNat 48, Char.ofNat 102, Char.ofNat 102, Char.ofNat 53] := String.toList_ofList
set_option maxRecDepth 100000 in
theorem factMain : Tryd.prog.mainIs = some (true, "5418d58ef94de6e05e73c89767e812ea562c37d48faa1012b85823041cb60ff5".toList) := by
  rw [Program.mainIs.eq_1, headWords, headSum]
  simp only [lw_harness, lw_ownmain]
  kernel_rfl
theorem factMaps : mapsRowed Tryd.prog = true := by kernel_rfl
theorem factStops : (Tryd.prog.stops == []) = true := by kernel_rfl
theorem factKnobs : (Tryd.prog.stopKnobs == []) = true := by kernel_rfl
theorem factHeard : Tryd.prog.stopsHeard = true := by kernel_rfl
end Go.Proofs.YtdldochhondifaaDoor
