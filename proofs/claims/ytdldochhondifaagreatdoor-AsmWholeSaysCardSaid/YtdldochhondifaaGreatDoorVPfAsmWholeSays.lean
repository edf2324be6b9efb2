/-
  AsmWholeSays: for every input the law returns true and leaves its arguments as they were, as the tied card says it.
  Conditions: the tables that the row lists start as the program's text lays them (the card ties them).
-/
import Derived.Test.YtdldochhondifaaGreatDoorTie
import Derived.Test.YtdldochhondifaaGreatDoorCards
import Derived.Lay
import Derived.ChangeMaps5
import Derived.SevenTiedAt
import Derived.Test.YtdldochhondifaaGreatDoorVKitE
import Derived.Test.YtdldochhondifaaGreatDoorVHead
import Derived.Test.YtdldochhondifaaGreatDoorVAxS
import Derived.Test.YtdldochhondifaaGreatDoorVStd
namespace Go.Proofs.YtdldochhondifaaGreatDoor
open Go.ChangeShapes Go.WideShapes Go.ChangeAt Go.WideElems Go.RowKit

namespace AsmWholeSays
set_option maxRecDepth 100000 in
theorem lifted (os : Os) (started : os.Started) (H : Type) (enc : TypeId × Value → H) :
    ReturnsInHanded {} Tryz.checked os 7 .any (fun w args => (Rows.asmWholeSaysSpec.pre enc Tryz.prog Tryz.f7 [] false w args ∧ laidMetH Tryz.prog laidAll w) ∧ sizedMet enc Tryz.prog Tryz.f7 (OpenSpec.ofChange Rows.asmWholeSaysSpec) false w args)
      (Rows.asmWholeSaysSpec.post enc Tryz.prog Tryz.f7 false true false false) := by
  refine returns_shaped (C := Tryz.checked) (X := fun w _ => laidMetH Tryz.prog laidAll w) (fun _ _ _ hh h => h.of_heap hh) own started (by kernel_rfl) Tryz.func7
    (ChangeSpec.witness_shaped (enc := enc) (C := Tryz.checked) (os := os) (X := fun w _ => laidMetH Tryz.prog laidAll w) false (World.laidAll Tryz.prog os laidAll) #[.string ⟨#[]⟩] 8 (World.laidAll_os _ _ _) (World.shaped_of_ZipB (by kernel_rfl) (by kernel_rfl)) (by kernel_rfl) (by kernel_rfl) (by kernel_rfl) (wit_met os _)) ?_
  intro W base args ds gs before hval0 hW hL hsh
  have hval : ∀ (j : Nat) t v, Tryz.f7.params[j]? = some t → args[j]? = some v → Value.okWide Tryz.prog W .any base t v := hval0
  have hW' := hW
  obtain ⟨p, q, hA0, hV, rfl, hfz, hnd⟩ := hW
  have hA : DataW.TrodAll enc Tryz.prog W 0 (fun _ => true) true Tryz.f7.params.toList args.toList ds p := hA0
  rw [Tryz.params7] at hA hval
  have ht := tab_of_laid hL
  obtain ⟨v0, d0, rfl, rfl, h0⟩ := trodAll_one hA
  obtain ⟨s, rfl, rfl, rfl, ws⟩ := Go.ChangeMaps.open_string Tryz.underlying9 (hval 0 9 v0 rfl rfl) h0
  have HC := AsmWholeSays_any s.data.toList (by unfold maxLen at ws; rw [← Lib.size_eq]; omega) W (std_of hL hsh)
  rw [show mkS s.data.toList = s from rfl] at HC
  obtain ⟨rfl, rfl⟩ := trodVars_none hV
  clear hA0 hval0
  refine HC.mono fun e W' ⟨he, hw⟩ => ?_
  subst he
  exact ⟨_, rfl, law_post laidOutAll hW' rfl rfl rfl Tryz.underlying4 (by kernel_rfl) hw⟩

set_option maxRecDepth 100000 in
set_option maxHeartbeats 2000000 in
theorem closed : joinedFacts Tryz.prog 7 Tryz.f7 Rows.asmWholeSaysSpec Rows.asmWholeSaysRow = true := by
  rw [joinedFacts.eq_1]
  simp only [Bool.and_eq_true]
  refine ⟨⟨⟨⟨⟨⟨⟨⟨⟨⟨⟨⟨⟨⟨⟨⟨⟨⟨⟨⟨⟨⟨⟨⟨⟨⟨⟨⟨⟨⟨⟨?_, laidOutAll⟩, factMaps⟩, ?_⟩, ?_⟩, ?_⟩, factStops⟩, ?_⟩, factKnobs⟩, ?_⟩, ?_⟩, ?_⟩, ?_⟩, ?_⟩, ?_⟩, ?_⟩, ?_⟩, ?_⟩, ?_⟩, ?_⟩, ?_⟩, ?_⟩, ?_⟩, ?_⟩, factHeard⟩, factEnter⟩, (by rw [factLifts]; rfl)⟩, (by rw [factMake]; rfl)⟩, ?_⟩, ?_⟩, ?_⟩, ?_⟩
  all_goals as_aux_lemma => kernel_rfl

theorem holds : Rows.AsmWholeSaysSaid :=
  OpenClaim.holds_of_wide 7 Tryz.f7 rfl rfl rfl rfl rfl rfl rfl ⟨rfl, rfl, rfl, rfl, rfl⟩ rfl rfl rfl rfl rfl (by as_aux_lemma => kernel_rfl) Tryz.func7 closed
    (by as_aux_lemma => exact of_decide_eq_true (by kernel_rfl)) (by as_aux_lemma => (unfold Func.isWrapper; first | (rw [if_pos (by decide +kernel)]; kernel_rfl) | (rw [if_neg (by decide +kernel)]; exact ⟨rfl, rfl⟩)))
    (fun os started H enc _ => lifted os started H enc)

theorem card : Rows.AsmWholeSaysCardSaid :=
  Claim7.holds_tied_plain_at .later [] [.data, .data, .data, .data, .sentinel, .sentinel, .data, .widerDeep, .pinned] true (true, "02773443934c54428747a35ffac4b3d207e4114d906287de6eb5f3347e3a203b") true
    holds (fun _ h => by cases h) (by as_aux_lemma => kernel_rfl) (fun _ h => by cases h) asmWholeSays_row_tie rfl ⟨rfl, rfl⟩ factMain rfl
    (fun f fn hf hfn => by
      obtain rfl : f = 7 := Option.some.inj ((show Tryz.prog.funcNamed "turnery/turnerylaw7.AsmWholeSays" = some 7 by kernel_rfl).symm.trans hf) |>.symm
      obtain rfl : fn = Tryz.f7 := (Option.some.inj (Tryz.func7.symm.trans hfn)).symm
      exact ⟨by kernel_rfl, fun j t ht => by
        have hm : t ∈ Tryz.f7.params.toList := by simpa using Array.mem_of_getElem? ht
        have hall : (Tryz.f7.params.toList.all fun u => !Tryz.prog.wantsStandIn u) = true := by kernel_rfl
        exact (show Tryz.prog.wantsStandIn t = false by simpa using List.all_eq_true.1 hall t hm)⟩)
    (by as_aux_lemma => kernel_rfl)
end AsmWholeSays
#print axioms AsmWholeSays.card
end Go.Proofs.YtdldochhondifaaGreatDoor
