/-
  ClashNames: for every input the law returns true and leaves its arguments as they were, as the tied card says it.
  Conditions: the table turnery/code.ways starts as the program's text lays it (the card ties it).
-/
import Derived.Test.YtgnkkgbjcodihaaDoorUnM
import Derived.Test.YtgnkkgbjcodihaaDoorHead
import Derived.Test.YtgnkkgbjcodihaaDoorTie
import Derived.Test.YtgnkkgbjcodihaaDoorCards
import Derived.Test.YtgnkkgbjcodihaaDoorSwE
import Derived.SevenTiedAt
namespace Go.Proofs.YtgnkkgbjcodihaaDoor
open Go.ChangeShapes Go.WideShapes Go.ChangeAt Go.WideElems Go.RowKit

namespace ClashNames
set_option maxRecDepth 100000 in
theorem lifted (os : Os) (started : os.Started) (H : Type) (enc : TypeId × Value → H) :
    ReturnsInHanded {} Tryd.checked os 8 .any (fun w args => (Rows.clashNamesSpec.pre enc Tryd.prog Tryd.f8 [] false w args ∧ laidMetH Tryd.prog laidAll w) ∧ sizedMet enc Tryd.prog Tryd.f8 (OpenSpec.ofChange Rows.clashNamesSpec) false w args)
      (Rows.clashNamesSpec.post enc Tryd.prog Tryd.f8 false true false false) := by
  refine returnsInHanded_of_change_and (C := Tryd.checked) (X := fun w _ => laidMetH Tryd.prog laidAll w) (fun _ _ _ hh h => h.of_heap hh) own started (by kernel_rfl) Tryd.func8
    (ChangeSpec.witness_shaped (enc := enc) (C := Tryd.checked) (os := os) (X := fun w _ => laidMetH Tryd.prog laidAll w) false (World.doorLaid Tryd.prog 400 os) #[.agg #[.slice none 0 0, .slice none 0 0], .int .i64 0, .int .i64 0, .int .i64 0] 8 rfl (World.shaped_of_RefB (by kernel_rfl) (by kernel_rfl)) (by kernel_rfl) (by kernel_rfl) (by kernel_rfl) (door_met os _)) ?_
  intro W base args ds gs before hval0 hW _ hwt hL _
  have hval : ∀ (j : Nat) t v, Tryd.f8.params[j]? = some t → args[j]? = some v → Value.okWide Tryd.prog W .any base t v := hval0
  have hW' := hW
  obtain ⟨p, q, hA0, hV, rfl, hfz, hnd⟩ := hW
  have hA : DataW.TrodAll enc Tryd.prog W 0 (fun _ => true) true Tryd.f8.params.toList args.toList ds p := hA0
  rw [Tryd.params8] at hA hval
  have ht := ways_of_laid hL
  obtain ⟨v0, r0, d0, e0, p0, q0, ha0, rfl, rfl, h0, k0⟩ := trodAll_cons hA
  obtain ⟨v1, r1, d1, e1, p1, q1, rfl, rfl, rfl, h1, k1⟩ := trodAll_cons k0
  obtain ⟨v2, r2, d2, e2, p2, q2, rfl, rfl, rfl, h2, k2⟩ := trodAll_cons k1
  obtain ⟨v3, r3, d3, e3, p3, q3, rfl, rfl, rfl, h3, k3⟩ := trodAll_cons k2
  obtain ⟨rfl, rfl, rfl⟩ := trodAll_nil k3
  obtain rfl : args = #[v0, v1, v2, v3] := by cases args; simp_all
  have hfit := fits_each (fun n hn => by simpa using List.all_eq_true.1 hwt n hn) 0 25 d0 rfl rfl
  obtain ⟨cs, rfl, hsz⟩ := okWide_struct Tryd.underlying25 (hval 0 25 v0 rfl rfl)
  obtain ⟨gv, fv, us, fs, e0, hu⟩ := unit_of_trod ⟨cs, rfl⟩ h0 hfit ht
  obtain ⟨k, rfl, hk⟩ := int_of_trod (hval 1 3 v1 rfl rfl) h1
  obtain ⟨n2, rfl, hn2⟩ := int_of_trod (hval 2 3 v2 rfl rfl) h2
  obtain ⟨n3, rfl, hn3⟩ := int_of_trod (hval 3 3 v3 rfl rfl) h3
  obtain rfl : cs = #[gv, fv] := Value.agg.inj e0
  have HC := ClashNames_any gv fv us fs k n2 n3 W hk hn2 hn3 hu
  obtain ⟨rfl, rfl⟩ := trodVars_none hV
  clear hA0 hval0
  refine HC.mono fun e W' ⟨he, hw⟩ => ?_
  subst he
  exact ⟨_, rfl, law_post laidOutAll hW' rfl rfl rfl Tryd.underlying4 (by kernel_rfl) hw⟩

set_option maxRecDepth 100000 in
theorem closed : joinedFacts Tryd.prog 8 Tryd.f8 Rows.clashNamesSpec Rows.clashNamesRow = true := by
  rw [joinedFacts.eq_1]
  simp only [Bool.and_eq_true]
  refine ⟨⟨⟨⟨⟨⟨⟨⟨⟨⟨⟨⟨⟨⟨⟨⟨⟨⟨⟨⟨⟨⟨⟨⟨⟨⟨⟨⟨⟨⟨⟨?_, laidOutAll⟩, factMaps⟩, ?_⟩, ?_⟩, ?_⟩, factStops⟩, ?_⟩, factKnobs⟩, ?_⟩, ?_⟩, ?_⟩, ?_⟩, ?_⟩, ?_⟩, ?_⟩, ?_⟩, ?_⟩, ?_⟩, ?_⟩, ?_⟩, ?_⟩, ?_⟩, ?_⟩, factHeard⟩, factEnter⟩, (by rw [factLifts]; rfl)⟩, (by rw [factMake]; rfl)⟩, ?_⟩, ?_⟩, ?_⟩, ?_⟩
  all_goals as_aux_lemma => kernel_rfl

theorem holds : Rows.ClashNamesSaid :=
  OpenClaim.holds_of_wide 8 Tryd.f8 rfl rfl rfl rfl rfl rfl rfl ⟨rfl, rfl, rfl, rfl, rfl⟩ rfl rfl rfl rfl rfl (by as_aux_lemma => kernel_rfl) Tryd.func8 closed
    (by as_aux_lemma => exact of_decide_eq_true (by kernel_rfl)) (by as_aux_lemma => (unfold Func.isWrapper; first | (rw [if_pos (by decide +kernel)]; kernel_rfl) | (rw [if_neg (by decide +kernel)]; exact ⟨rfl, rfl⟩)))
    (fun os started H enc _ => lifted os started H enc)

theorem card : Rows.ClashNamesCardSaid :=
  Claim7.holds_tied_plain_at .later [] [.data] true (true, "82e03cd1ab2622e4be518f6f1d6f5e4b81265c56f035f014c04b2f6b2ac91a6b") false
    holds (fun _ h => by cases h) (by as_aux_lemma => kernel_rfl) (fun _ h => by cases h) clashNames_row_tie rfl ⟨rfl, rfl⟩ factMain rfl
    (fun f fn hf hfn => by
      obtain rfl : f = 8 := Option.some.inj ((show Tryd.prog.funcNamed "turnery/turnerylaw7.ClashNames" = some 8 by kernel_rfl).symm.trans hf) |>.symm
      obtain rfl : fn = Tryd.f8 := (Option.some.inj (Tryd.func8.symm.trans hfn)).symm
      exact ⟨by kernel_rfl, fun j t ht => by
        have hm : t ∈ Tryd.f8.params.toList := by simpa using Array.mem_of_getElem? ht
        have hall : (Tryd.f8.params.toList.all fun u => !Tryd.prog.wantsStandIn u) = true := by kernel_rfl
        exact (show Tryd.prog.wantsStandIn t = false by simpa using List.all_eq_true.1 hall t hm)⟩)
    (by as_aux_lemma => kernel_rfl)
end ClashNames
#print axioms ClashNames.card
end Go.Proofs.YtgnkkgbjcodihaaDoor
