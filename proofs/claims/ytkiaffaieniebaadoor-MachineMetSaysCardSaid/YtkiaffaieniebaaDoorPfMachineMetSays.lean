/-
  MachineMetSays: for every input the law returns true and leaves its arguments as they were, as the tied card says it.
  Conditions: the table turnery/mac.shapes starts as the program's text lays it (the card ties it).
-/
import Derived.Test.YtkiaffaieniebaaDoorKitE
import Derived.Test.YtkiaffaieniebaaDoorHead
import Derived.Test.YtkiaffaieniebaaDoorTie
import Derived.Test.YtkiaffaieniebaaDoorCards
import Derived.Test.YtkiaffaieniebaaDoorWkF
import Derived.SevenTiedAt
namespace Go.Proofs.YtkiaffaieniebaaDoor
open Go.ChangeShapes Go.WideShapes Go.ChangeAt Go.WideElems Go.RowKit

namespace MachineMetSays
set_option maxRecDepth 100000 in
theorem lifted (os : Os) (started : os.Started) (H : Type) (enc : TypeId × Value → H) :
    ReturnsInHanded {} Tryd.checked os 6 .any (fun w args => (Rows.machineMetSaysSpec.pre enc Tryd.prog Tryd.f6 [] false w args ∧ laidMetH Tryd.prog laidAll w) ∧ sizedMet enc Tryd.prog Tryd.f6 (OpenSpec.ofChange Rows.machineMetSaysSpec) false w args)
      (Rows.machineMetSaysSpec.post enc Tryd.prog Tryd.f6 false true false false) := by
  refine returnsInHanded_of_change_and (C := Tryd.checked) (X := fun w _ => laidMetH Tryd.prog laidAll w) (fun _ _ _ hh h => h.of_heap hh) own started (by kernel_rfl) Tryd.func6
    (ChangeSpec.witness_shaped (enc := enc) (C := Tryd.checked) (os := os) (X := fun w _ => laidMetH Tryd.prog laidAll w) false (World.doorLaid Tryd.prog 400 os) #[.agg #[.slice none 0 0, .slice none 0 0], .slice none 0 0, .int .i64 0] 8 rfl (World.shaped_of_RefB (by kernel_rfl) (by kernel_rfl)) (by kernel_rfl) (by kernel_rfl) (by kernel_rfl) (door_met os _)) ?_
  intro W base args ds gs before hval0 hW _ _ hL _
  have hval : ∀ (j : Nat) t v, Tryd.f6.params[j]? = some t → args[j]? = some v → Value.okWide Tryd.prog W .any base t v := hval0
  have hW' := hW
  obtain ⟨p, q, hA0, hV, rfl, hfz, hnd⟩ := hW
  have hA : DataW.TrodAll enc Tryd.prog W 0 (fun _ => true) true Tryd.f6.params.toList args.toList ds p := hA0
  rw [Tryd.params6] at hA hval
  have ht := tab_of_laid hL
  obtain ⟨v0, r0, d0, e0, p0, q0, ha0, rfl, rfl, h0, k0⟩ := trodAll_cons hA
  obtain ⟨v1, r1, d1, e1, p1, q1, rfl, rfl, rfl, h1, k1⟩ := trodAll_cons k0
  obtain ⟨v2, r2, d2, e2, p2, q2, rfl, rfl, rfl, h2, k2⟩ := trodAll_cons k1
  obtain ⟨rfl, rfl, rfl⟩ := trodAll_nil k2
  obtain rfl : args = #[v0, v1, v2] := by cases args; simp_all
  obtain ⟨cs, rfl, hsz⟩ := okWide_struct Tryd.underlying36 (hval 0 36 v0 rfl rfl)
  obtain ⟨fu, hfu⟩ := h0
  obtain ⟨gv, rv, gs, rs, hmm, hg, hr, hgo, hro⟩ := img_of_cells hfu
  obtain rfl : cs = #[gv, rv] := Array.ext' hmm
  obtain ⟨is, his, _⟩ := ints_of_trod (okWide_slice Tryd.underlying26 (hval 1 26 v1 rfl rfl)) h1
  obtain ⟨n, rfl, hn⟩ := int_of_trod (hval 2 3 v2 rfl rfl) h2
  have HC := MachineMetSays_any gv rv v1 gs rs is n W hg hr his hgo hro ht
  obtain ⟨rfl, rfl⟩ := trodVars_none hV
  clear hA0 hval0
  refine HC.mono fun e W' ⟨he, hw⟩ => ?_
  subst he
  exact ⟨_, rfl, law_post laidOutAll hW' rfl rfl rfl Tryd.underlying4 (by kernel_rfl) hw⟩

set_option maxRecDepth 100000 in
theorem closed : joinedFacts Tryd.prog 6 Tryd.f6 Rows.machineMetSaysSpec Rows.machineMetSaysRow = true := by
  rw [joinedFacts.eq_1]
  simp only [Bool.and_eq_true]
  refine ⟨⟨⟨⟨⟨⟨⟨⟨⟨⟨⟨⟨⟨⟨⟨⟨⟨⟨⟨⟨⟨⟨⟨⟨⟨⟨⟨⟨⟨⟨⟨?_, laidOutAll⟩, factMaps⟩, ?_⟩, ?_⟩, ?_⟩, factStops⟩, ?_⟩, factKnobs⟩, ?_⟩, ?_⟩, ?_⟩, ?_⟩, ?_⟩, ?_⟩, ?_⟩, ?_⟩, ?_⟩, ?_⟩, ?_⟩, ?_⟩, ?_⟩, ?_⟩, ?_⟩, factHeard⟩, factEnter⟩, (by rw [factLifts]; rfl)⟩, (by rw [factMake]; rfl)⟩, ?_⟩, ?_⟩, ?_⟩, ?_⟩
  all_goals as_aux_lemma => kernel_rfl

theorem holds : Rows.MachineMetSaysSaid :=
  OpenClaim.holds_of_wide 6 Tryd.f6 rfl rfl rfl rfl rfl rfl rfl ⟨rfl, rfl, rfl, rfl, rfl⟩ rfl rfl rfl rfl rfl (by as_aux_lemma => kernel_rfl) Tryd.func6 closed
    (by as_aux_lemma => exact of_decide_eq_true (by kernel_rfl)) (by as_aux_lemma => (unfold Func.isWrapper; first | (rw [if_pos (by decide +kernel)]; kernel_rfl) | (rw [if_neg (by decide +kernel)]; exact ⟨rfl, rfl⟩)))
    (fun os started H enc _ => lifted os started H enc)

theorem card : Rows.MachineMetSaysCardSaid :=
  Claim7.holds_tied_plain_at .later [] [.data] true (true, "2337451b9506bfbad14a937520ca4e0b4b894d76d9c2dc8c0b1af998937a9ff8") false
    holds (fun _ h => by cases h) (by as_aux_lemma => kernel_rfl) (fun _ h => by cases h) machineMetSays_row_tie rfl ⟨rfl, rfl⟩ factMain rfl
    (fun f fn hf hfn => by
      obtain rfl : f = 6 := Option.some.inj ((show Tryd.prog.funcNamed "turnery/turnerylaw7.MachineMetSays" = some 6 by kernel_rfl).symm.trans hf) |>.symm
      obtain rfl : fn = Tryd.f6 := (Option.some.inj (Tryd.func6.symm.trans hfn)).symm
      exact ⟨by kernel_rfl, fun j t ht => by
        have hm : t ∈ Tryd.f6.params.toList := by simpa using Array.mem_of_getElem? ht
        have hall : (Tryd.f6.params.toList.all fun u => !Tryd.prog.wantsStandIn u) = true := by kernel_rfl
        exact (show Tryd.prog.wantsStandIn t = false by simpa using List.all_eq_true.1 hall t hm)⟩)
    (by as_aux_lemma => kernel_rfl)
end MachineMetSays
#print axioms MachineMetSays.card
end Go.Proofs.YtkiaffaieniebaaDoor
