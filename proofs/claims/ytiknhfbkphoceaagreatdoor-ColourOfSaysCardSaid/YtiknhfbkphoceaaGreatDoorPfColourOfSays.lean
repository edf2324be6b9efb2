/-
  ColourOfSays: for every input the law returns true and leaves its arguments as they were, as the tied card says it.
  Conditions: the table turnery/code.ways starts as the program's text lays it (the card ties it).
-/
import Derived.Test.YtiknhfbkphoceaaGreatDoorUnM
import Derived.Test.YtiknhfbkphoceaaGreatDoorHead
import Derived.Test.YtiknhfbkphoceaaGreatDoorTie
import Derived.Test.YtiknhfbkphoceaaGreatDoorCards
import Derived.Test.YtiknhfbkphoceaaGreatDoorCoY
import Derived.SevenTiedAt
namespace Go.Proofs.YtiknhfbkphoceaaGreatDoor
open Go.ChangeShapes Go.WideShapes Go.ChangeAt Go.WideElems Go.RowKit

namespace ColourOfSays
set_option maxRecDepth 100000 in
theorem lifted (os : Os) (started : os.Started) (H : Type) (enc : TypeId × Value → H) :
    ReturnsInHanded {} Tryz.checked os 3 .any (fun w args => (Rows.colourOfSaysSpec.pre enc Tryz.prog Tryz.f3 [] false w args ∧ laidMetH Tryz.prog laidAll w) ∧ sizedMet enc Tryz.prog Tryz.f3 (OpenSpec.ofChange Rows.colourOfSaysSpec) false w args)
      (Rows.colourOfSaysSpec.post enc Tryz.prog Tryz.f3 false true false false) := by
  refine returnsInHanded_of_change_and (C := Tryz.checked) (X := fun w _ => laidMetH Tryz.prog laidAll w) (fun _ _ _ hh h => h.of_heap hh) own started (by kernel_rfl) Tryz.func3
    (ChangeSpec.witness_shaped (enc := enc) (C := Tryz.checked) (os := os) (X := fun w _ => laidMetH Tryz.prog laidAll w) false (World.doorLaid Tryz.prog 400 os) #[.agg #[.slice none 0 0, .slice none 0 0], .int .i64 0, .int .i64 0] 8 rfl (World.shaped_of_RefB (by kernel_rfl) (by kernel_rfl)) (by kernel_rfl) (by kernel_rfl) (by kernel_rfl) (door_met os _)) ?_
  intro W base args ds gs before hval0 hW _ hwt hL _
  have hval : ∀ (j : Nat) t v, Tryz.f3.params[j]? = some t → args[j]? = some v → Value.okWide Tryz.prog W .any base t v := hval0
  have hW' := hW
  obtain ⟨p, q, hA0, hV, rfl, hfz, hnd⟩ := hW
  have hA : DataW.TrodAll enc Tryz.prog W 0 (fun _ => true) true Tryz.f3.params.toList args.toList ds p := hA0
  rw [Tryz.params3] at hA hval
  have ht := ways_of_laid hL
  obtain ⟨v0, r0, d0, e0, p0, q0, ha0, rfl, rfl, h0, k0⟩ := trodAll_cons hA
  obtain ⟨v1, r1, d1, e1, p1, q1, rfl, rfl, rfl, h1, k1⟩ := trodAll_cons k0
  obtain ⟨v2, r2, d2, e2, p2, q2, rfl, rfl, rfl, h2, k2⟩ := trodAll_cons k1
  obtain ⟨rfl, rfl, rfl⟩ := trodAll_nil k2
  obtain rfl : args = #[v0, v1, v2] := by cases args; simp_all
  have hfit := fits_each (fun n hn => by simpa using List.all_eq_true.1 hwt n hn) 0 25 d0 rfl rfl
  obtain ⟨cs, rfl, hsz⟩ := okWide_struct Tryz.underlying25 (hval 0 25 v0 rfl rfl)
  obtain ⟨gv, fv, us, fs, e0, hu⟩ := unit_of_trod ⟨cs, rfl⟩ h0 hfit ht
  obtain ⟨k, rfl, hk⟩ := int_of_trod (hval 1 3 v1 rfl rfl) h1
  obtain ⟨n2, rfl, hn2⟩ := int_of_trod (hval 2 3 v2 rfl rfl) h2
  obtain rfl : cs = #[gv, fv] := Value.agg.inj e0
  have HC := ColourOfSays_any gv fv us fs k n2 W hk hn2 hu
  obtain ⟨rfl, rfl⟩ := trodVars_none hV
  clear hA0 hval0
  refine HC.mono fun e W' ⟨he, hw⟩ => ?_
  subst he
  exact ⟨_, rfl, law_post laidOutAll hW' rfl rfl rfl Tryz.underlying4 (by kernel_rfl) hw⟩

set_option maxRecDepth 100000 in
set_option maxHeartbeats 2000000 in
theorem closed : joinedFacts Tryz.prog 3 Tryz.f3 Rows.colourOfSaysSpec Rows.colourOfSaysRow = true := by
  rw [joinedFacts.eq_1]
  simp only [Bool.and_eq_true]
  refine ⟨⟨⟨⟨⟨⟨⟨⟨⟨⟨⟨⟨⟨⟨⟨⟨⟨⟨⟨⟨⟨⟨⟨⟨⟨⟨⟨⟨⟨⟨⟨?_, laidOutAll⟩, factMaps⟩, ?_⟩, ?_⟩, ?_⟩, factStops⟩, ?_⟩, factKnobs⟩, ?_⟩, ?_⟩, ?_⟩, ?_⟩, ?_⟩, ?_⟩, ?_⟩, ?_⟩, ?_⟩, ?_⟩, ?_⟩, ?_⟩, ?_⟩, ?_⟩, ?_⟩, factHeard⟩, factEnter⟩, (by rw [factLifts]; rfl)⟩, (by rw [factMake]; rfl)⟩, ?_⟩, ?_⟩, ?_⟩, ?_⟩
  all_goals as_aux_lemma => kernel_rfl

theorem holds : Rows.ColourOfSaysSaid :=
  OpenClaim.holds_of_wide 3 Tryz.f3 rfl rfl rfl rfl rfl rfl rfl ⟨rfl, rfl, rfl, rfl, rfl⟩ rfl rfl rfl rfl rfl (by as_aux_lemma => kernel_rfl) Tryz.func3 closed
    (by as_aux_lemma => exact of_decide_eq_true (by kernel_rfl)) (by as_aux_lemma => (unfold Func.isWrapper; first | (rw [if_pos (by decide +kernel)]; kernel_rfl) | (rw [if_neg (by decide +kernel)]; exact ⟨rfl, rfl⟩)))
    (fun os started H enc _ => lifted os started H enc)

theorem card : Rows.ColourOfSaysCardSaid :=
  Claim7.holds_tied_plain_at .later [] [.data] true (true, "ce162bdd018e114b740f26828fc6a3f8bd76bed7590f0046d682ea2c32cc0476") false
    holds (fun _ h => by cases h) (by as_aux_lemma => kernel_rfl) (fun _ h => by cases h) colourOfSays_row_tie rfl ⟨rfl, rfl⟩ factMain rfl
    (fun f fn hf hfn => by
      obtain rfl : f = 3 := Option.some.inj ((show Tryz.prog.funcNamed "turnery/turnerylaw7.ColourOfSays" = some 3 by kernel_rfl).symm.trans hf) |>.symm
      obtain rfl : fn = Tryz.f3 := (Option.some.inj (Tryz.func3.symm.trans hfn)).symm
      exact ⟨by kernel_rfl, fun j t ht => by
        have hm : t ∈ Tryz.f3.params.toList := by simpa using Array.mem_of_getElem? ht
        have hall : (Tryz.f3.params.toList.all fun u => !Tryz.prog.wantsStandIn u) = true := by kernel_rfl
        exact (show Tryz.prog.wantsStandIn t = false by simpa using List.all_eq_true.1 hall t hm)⟩)
    (by as_aux_lemma => kernel_rfl)
end ColourOfSays
#print axioms ColourOfSays.card
end Go.Proofs.YtiknhfbkphoceaaGreatDoor
