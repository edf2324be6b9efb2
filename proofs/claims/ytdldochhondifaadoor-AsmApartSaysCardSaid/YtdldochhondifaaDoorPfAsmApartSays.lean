/-
  AsmApartSays: for every input the law returns true and leaves its arguments as they were, as the tied card says it.
  Conditions: the tables that the row lists start as the program's text lays them (the card ties them).
-/
import Derived.Test.YtdldochhondifaaDoorKitE
import Derived.Test.YtdldochhondifaaDoorHead
import Derived.Test.YtdldochhondifaaDoorTie
import Derived.Test.YtdldochhondifaaDoorCards
import Derived.Test.YtdldochhondifaaDoorAsN
import Derived.SevenTiedAt
namespace Go.Proofs.YtdldochhondifaaDoor
open Go.ChangeShapes Go.WideShapes Go.ChangeAt Go.WideElems Go.RowKit

namespace AsmApartSays
set_option maxRecDepth 100000 in
theorem lifted (os : Os) (started : os.Started) (H : Type) (enc : TypeId × Value → H) :
    ReturnsInHanded {} Tryd.checked os 4 .any (fun w args => (Rows.asmApartSaysSpec.pre enc Tryd.prog Tryd.f4 [] false w args ∧ laidMetH Tryd.prog laidAll w) ∧ sizedMet enc Tryd.prog Tryd.f4 (OpenSpec.ofChange Rows.asmApartSaysSpec) false w args)
      (Rows.asmApartSaysSpec.post enc Tryd.prog Tryd.f4 false true false false) := by
  refine returnsInHanded_of_change_and (C := Tryd.checked) (X := fun w _ => laidMetH Tryd.prog laidAll w) (fun _ _ _ hh h => h.of_heap hh) own started (by kernel_rfl) Tryd.func4
    (ChangeSpec.witness_shaped (enc := enc) (C := Tryd.checked) (os := os) (X := fun w _ => laidMetH Tryd.prog laidAll w) false (World.doorLaid Tryd.prog 400 os) #[.agg #[.slice none 0 0, .slice none 0 0]] 8 rfl (World.shaped_of_RefB (by kernel_rfl) (by kernel_rfl)) (by kernel_rfl) (by kernel_rfl) (by kernel_rfl) (door_met os _)) ?_
  intro W base args ds gs before hval0 hW _ _ hL _
  have hval : ∀ (j : Nat) t v, Tryd.f4.params[j]? = some t → args[j]? = some v → Value.okWide Tryd.prog W .any base t v := hval0
  have hW' := hW
  obtain ⟨p, q, hA0, hV, rfl, hfz, hnd⟩ := hW
  have hA : DataW.TrodAll enc Tryd.prog W 0 (fun _ => true) true Tryd.f4.params.toList args.toList ds p := hA0
  rw [Tryd.params4] at hA hval
  have ht := tab_of_laid hL
  obtain ⟨v0, d0, rfl, rfl, h0⟩ := trodAll_one hA
  obtain ⟨cs, rfl, hsz⟩ := okWide_struct Tryd.underlying31 (hval 0 31 v0 rfl rfl)
  obtain ⟨fu, hfu⟩ := h0
  obtain ⟨gv, rv, gs, rs, hmm, hg, hr, hgo, hro, hgi⟩ := img_of_cells2 hfu
  obtain rfl : cs = #[gv, rv] := Array.ext' hmm
  have HC := AsmApartSays_any gv rv gs rs W hg hr hgo hro hgi ht (pow_of_laid hL) (wrd_of_laid hL)
  obtain ⟨rfl, rfl⟩ := trodVars_none hV
  clear hA0 hval0
  refine HC.mono fun e W' ⟨he, hw⟩ => ?_
  subst he
  exact ⟨_, rfl, law_post laidOutAll hW' rfl rfl rfl Tryd.underlying4 (by kernel_rfl) hw⟩

set_option maxRecDepth 100000 in
set_option maxHeartbeats 2000000 in
theorem closed : joinedFacts Tryd.prog 4 Tryd.f4 Rows.asmApartSaysSpec Rows.asmApartSaysRow = true := by
  rw [joinedFacts.eq_1]
  simp only [Bool.and_eq_true]
  refine ⟨⟨⟨⟨⟨⟨⟨⟨⟨⟨⟨⟨⟨⟨⟨⟨⟨⟨⟨⟨⟨⟨⟨⟨⟨⟨⟨⟨⟨⟨⟨?_, laidOutAll⟩, factMaps⟩, ?_⟩, ?_⟩, ?_⟩, factStops⟩, ?_⟩, factKnobs⟩, ?_⟩, ?_⟩, ?_⟩, ?_⟩, ?_⟩, ?_⟩, ?_⟩, ?_⟩, ?_⟩, ?_⟩, ?_⟩, ?_⟩, ?_⟩, ?_⟩, ?_⟩, factHeard⟩, factEnter⟩, (by rw [factLifts]; rfl)⟩, (by rw [factMake]; rfl)⟩, ?_⟩, ?_⟩, ?_⟩, ?_⟩
  all_goals as_aux_lemma => kernel_rfl

theorem holds : Rows.AsmApartSaysSaid :=
  OpenClaim.holds_of_wide 4 Tryd.f4 rfl rfl rfl rfl rfl rfl rfl ⟨rfl, rfl, rfl, rfl, rfl⟩ rfl rfl rfl rfl rfl (by as_aux_lemma => kernel_rfl) Tryd.func4 closed
    (by as_aux_lemma => exact of_decide_eq_true (by kernel_rfl)) (by as_aux_lemma => (unfold Func.isWrapper; first | (rw [if_pos (by decide +kernel)]; kernel_rfl) | (rw [if_neg (by decide +kernel)]; exact ⟨rfl, rfl⟩)))
    (fun os started H enc _ => lifted os started H enc)

theorem card : Rows.AsmApartSaysCardSaid :=
  Claim7.holds_tied_plain_at .later [] [.data, .data, .data, .data, .widerDeep] true (true, "5418d58ef94de6e05e73c89767e812ea562c37d48faa1012b85823041cb60ff5") false
    holds (fun _ h => by cases h) (by as_aux_lemma => kernel_rfl) (fun _ h => by cases h) asmApartSays_row_tie rfl ⟨rfl, rfl⟩ factMain rfl
    (fun f fn hf hfn => by
      obtain rfl : f = 4 := Option.some.inj ((show Tryd.prog.funcNamed "turnery/turnerylaw7.AsmApartSays" = some 4 by kernel_rfl).symm.trans hf) |>.symm
      obtain rfl : fn = Tryd.f4 := (Option.some.inj (Tryd.func4.symm.trans hfn)).symm
      exact ⟨by kernel_rfl, fun j t ht => by
        have hm : t ∈ Tryd.f4.params.toList := by simpa using Array.mem_of_getElem? ht
        have hall : (Tryd.f4.params.toList.all fun u => !Tryd.prog.wantsStandIn u) = true := by kernel_rfl
        exact (show Tryd.prog.wantsStandIn t = false by simpa using List.all_eq_true.1 hall t hm)⟩)
    (by as_aux_lemma => kernel_rfl)
end AsmApartSays
#print axioms AsmApartSays.card
end Go.Proofs.YtdldochhondifaaDoor
