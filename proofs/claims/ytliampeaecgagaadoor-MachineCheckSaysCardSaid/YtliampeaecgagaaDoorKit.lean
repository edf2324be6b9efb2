/-
  What all laws of this seat share: the listed table read out of the condition, the condition met at the door, the row's last step where the call has made memory alone.
  Conditions: none.
-/
import Derived.Test.YtliampeaecgagaaDoorRows
import Derived.Test.YtliampeaecgagaaDoorMacB
import Derived.ProofKit
import Derived.LaidMore
import Derived.OpenShut
import Derived.MakeChecks
import Derived.Stop.Joined
import Derived.ChangeSame
import Derived.WideKeyArgs
namespace Go.Proofs.YtliampeaecgagaaDoor
open Go.ChangeShapes Go.WideShapes Go.ChangeAt Go.WideElems Go.RowKit

theorem own : ownKnob Tryd.prog.godebug = none := by kernel_rfl
theorem laidOutAll : laidOutB Tryd.prog = true := by kernel_rfl
theorem gShapes : Tryd.prog.globalNamed "turnery/mac.shapes" = some 0 := by kernel_rfl
theorem tShapes : (Tryd.prog.globals[0]?).map (·.type) = some 148 := by kernel_rfl
def laidAll : List (String × DataW Unit) := [("turnery/mac.shapes", Rows.laid_turnery_mac_shapes)]
theorem door_met (os : Os) (args : Array Value) : laidMetH Tryd.prog laidAll ((World.doorLaid Tryd.prog 400 os).forCall (fun _ _ => 0) ⟨#[], args, []⟩).memory :=
  laidMetH_of_parts3 (fuel := 8) (laidMet_of_run' 8 (by kernel_rfl) (by kernel_rfl)) (by kernel_rfl) (by kernel_rfl)

theorem cShape : Tryd.prog.cellsOf 107 = 4 := by kernel_rfl
theorem cBool : Tryd.prog.cellsOf 4 = 1 := by kernel_rfl
theorem cInt : Tryd.prog.cellsOf 3 = 1 := by kernel_rfl
/-- The table's datum, an entry each. -/
def shapeRow (k : Int) : DataW Unit := .agg [.lit (.bool (shD k)), .lit (.bool (shA k)), .lit (.bool (shB k)), .lit (.int .i64 (shK k))]
def shapeRows : List (DataW Unit) := match (Rows.laid_turnery_mac_shapes : DataW Unit) with | .agg xs => xs | _ => []
theorem shape_rows : (Rows.laid_turnery_mac_shapes : DataW Unit) = .agg shapeRows := rfl
theorem shape_row (k : Int) (h : inTab k) : shapeRows[k.toNat]? = some (shapeRow k) := by
  obtain ⟨h1, h2, h3, h4, h5⟩ := h
  obtain rfl | rfl | rfl | rfl | rfl | rfl | rfl | rfl | rfl | rfl | rfl | rfl | rfl | rfl | rfl :
    k = 1 ∨ k = 2 ∨ k = 3 ∨ k = 4 ∨ k = 33 ∨ k = 34 ∨ k = 35 ∨ k = 36 ∨ k = 37 ∨ k = 38 ∨ k = 39 ∨ k = 44 ∨ k = 45 ∨ k = 46 ∨ k = 47 := by omega
  all_goals kernel_rfl

theorem tab_of_laid {W : World} (h : laidMetH Tryd.prog laidAll W) : Tab W := by
  rw [MakeChecks.laidMetH_plain _ _ _ (by kernel_rfl)] at h
  obtain ⟨ps, ⟨g0, t0, cs0, f0, p0, q0, hg0, ht0, hv0, hd0, _, _⟩, _, _⟩ := h
  obtain rfl := Option.some.inj (gShapes.symm.trans hg0)
  obtain rfl := Option.some.inj (tShapes.symm.trans ht0)
  obtain ⟨xs, m1, rfl, hx1, hlen, hn, hel⟩ := DataW.trod_array Tryd.underlying148 hd0
  have hxs : xs.map (·.1) = shapeRows := by
    simp only [Prod.mk.injEq] at hx1
    rw [shape_rows] at hx1
    exact (DataW.agg.inj hx1.1).symm
  have hcell : ∀ i, W.cell? ⟨0, i, none⟩ = cs0[i]? := fun i => World.var?_cell hg0 hv0 i
  refine ⟨?_, fun k hk => ?_⟩
  · have h0 := hcell 0
    rcases Nat.lt_or_ge 0 W.heap.size with h | h
    · exact h
    · exfalso
      have : W.cell? ⟨0, 0, none⟩ = none := by simp [World.cell?, Array.getElem?_eq_none h]
      rw [this] at h0
      have c48 : Tryd.prog.cellsOf 148 = 192 := by kernel_rfl
      rw [c48] at hlen
      have hsz : cs0.size = 192 := by simpa using hlen
      have h1 : cs0[0]? = some (cs0[0]'(by omega)) := Array.getElem?_eq_getElem _
      rw [h1] at h0
      cases h0
  · have hrow := shape_row k hk
    have hk48 : k.toNat < 48 := by have := hk.2.1; have := hk.1; omega
    have h1 := hel k.toNat (by omega)
    rw [cShape] at h1
    rw [← hxs, List.getElem?_map] at hrow
    cases hx : xs[k.toNat]? with
    | none => rw [hx] at hrow; cases hrow
    | some x =>
      rw [hx] at h1 hrow
      simp only [Option.map_some, Option.some.injEq] at hrow
      obtain ⟨ys, n, rfl, hx2, hl2, hy, hf⟩ := DataW.trod_struct Tryd.underlying107 h1
      have g0 := hf 0 _ rfl
      have g1 := hf 1 _ rfl
      have g2 := hf 2 _ rfl
      have g3 := hf 3 _ rfl
      change DataW.trod _ _ _ _ _ _ _ 4 (List.take (Tryd.prog.cellsOf 4) (List.drop 0 _)) = _ at g0
      change DataW.trod _ _ _ _ _ _ _ 4 (List.take (Tryd.prog.cellsOf 4) (List.drop 1 _)) = _ at g1
      change DataW.trod _ _ _ _ _ _ _ 4 (List.take (Tryd.prog.cellsOf 4) (List.drop 2 _)) = _ at g2
      change DataW.trod _ _ _ _ _ _ _ 3 (List.take (Tryd.prog.cellsOf 3) (List.drop 3 _)) = _ at g3
      rw [cBool] at g0 g1 g2
      rw [cInt] at g3
      match ys, hy with
      | [y0, y1, y2, y3], _ =>
        simp only [List.getElem?_cons_zero, List.getElem?_cons_succ] at g0 g1 g2 g3
        obtain ⟨b0, e0, r0⟩ := DataW.trod_bool Tryd.underlying4 g0
        obtain ⟨b1, e1, r1⟩ := DataW.trod_bool Tryd.underlying4 g1
        obtain ⟨b2, e2, r2⟩ := DataW.trod_bool Tryd.underlying4 g2
        obtain ⟨b3, e3, r3, _⟩ := DataW.trod_int Tryd.underlying3 g3
        have hd : x.1 = .agg [.lit (.bool b0), .lit (.bool b1), .lit (.bool b2), .lit (.int .i64 b3)] := by
          rw [hx2, r0, r1, r2, r3]; rfl
        rw [hd] at hrow
        unfold shapeRow at hrow
        simp only [DataW.agg.injEq, List.cons.injEq, DataW.lit.injEq, Lit.bool.injEq, Lit.int.injEq, and_true, true_and] at hrow
        obtain ⟨rfl, rfl, rfl, rfl⟩ := hrow
        have cell : ∀ (j : Nat) (v : Value), ((cs0.toList.drop (k.toNat * 4)).take 4)[j]? = some v → W.cell? ⟨0, k.toNat * 4 + j, none⟩ = some v := by
          intro j v hj
          rw [hcell]
          rw [List.getElem?_take] at hj
          split at hj
          · rw [List.getElem?_drop] at hj
            simpa using hj
          · cases hj
        have at_ : ∀ (j off : Nat) (l : List Value) (v : Value), (l.drop off).take 1 = [v] → l[off]? = some v := by
          intro j off l v h
          have : ((l.drop off).take 1)[0]? = some v := by rw [h]; rfl
          rw [List.getElem?_take] at this
          simpa using this
        exact ⟨cell 0 _ (at_ 0 _ _ _ e0), cell 1 _ (at_ 1 _ _ _ e1), cell 2 _ (at_ 2 _ _ _ e2), cell 3 _ (at_ 3 _ _ _ e3)⟩
end Go.Proofs.YtliampeaecgagaaDoor
