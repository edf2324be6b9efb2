/-
  The law AsmApartSays walks to true.
  Conditions: the tables lie as their initialisers lay them.
-/
import Derived.Test.YtdldochhondifaaDoorAsM
namespace Go.Proofs.YtdldochhondifaaDoor
open Go.RowKit
attribute [local go_sem] Oper.semAt_some

set_option maxRecDepth 100000 in
set_option maxHeartbeats 2000000 in
theorem AsmApartSays_any (gv rv : Value) (gs : List Glob) (rs : List Rout) (w : World) (hg : GlobsAt w w.heap.size gv gs) (hr : RoutsAt w w.heap.size rv rs) (hgo : GOk gs) (hro : ROk rs) (hgi : GIn gs) (hT : Tab w) (hP : Pow w) (hW : Wrd w) :
    Calls Tryd.prog 4 #[.agg #[gv, rv]] w fun e w' => e = .returned (.bool true) ∧ Below w.heap.size w w' := by
  obtain ⟨uc, ua, hun⟩ : ∃ uc ua, machF gs rs = (uc, ua) := ⟨_, _, rfl⟩
  have HC1 : Hid (∀ W, Below w.heap.size w W → Calls Tryd.prog 7 #[.agg #[gv, rv]] W fun e w' => e = .returned (.tuple #[.string (mkS (apartF gs rs)), .agg #[.int .i64 uc, .int .i64 ua]]) ∧ Below W.heap.size W w') := Lib.hid (fun W hB => by
    have := Apart_any gv rv gs rs W ((hg.below hB (Nat.le_refl _)).more hB.size) ((hr.below hB (Nat.le_refl _)).more hB.size) hgo hro hgi (hT.own hB) (hP.own hB) (hW.own hB)
    rwa [hun] at this)
  have HC2 : Hid (∀ W, Below w.heap.size w W → Calls Tryd.prog 8 #[.agg #[gv, rv]] W fun e w' => e = .returned (.tuple #[.string (mkS (apartF gs rs)), .agg #[.int .i64 uc, .int .i64 ua]]) ∧ Below W.heap.size W w') := Lib.hid (fun W hB => by
    have := RApart_any gv rv gs rs W ((hg.below hB (Nat.le_refl _)).more hB.size) ((hr.below hB (Nat.le_refl _)).more hB.size) hgo hro hgi
    rwa [hun] at this)
  obtain ⟨gA, gc, hgv, _⟩ := hg
  obtain ⟨rA, rc, hrv, _⟩ := hr
  generalize mkS (apartF gs rs) = TX at *
  generalize gs.length = gl at *
  generalize rs.length = rl at *
  subst hgv
  subst hrv
  have HB0 : Hid (Below w.heap.size w (w.alloc (.cells #[.slice gA gl gc, .slice rA rl rc] 31))) := Lib.hid ((Below.refl _ _).alloc (Nat.le_refl _) _)
  have HI0 : Hid (Blk (w.alloc (.cells #[.slice gA gl gc, .slice rA rl rc] 31)) w.heap.size 31 #[.slice gA gl gc, .slice rA rl rc]) := Lib.hid (Blk.new _ _ _)
  clear hun hgo hro hgi hT hP hW
  go_enter Tryd.func4, Tryd.ntmps4
  go_upto_region 1 with fail
  generalize w.alloc (.cells #[.slice gA gl gc, .slice rA rl rc] 31) = W0 at *
  have i0 := HI0.out.cell 0
  have i1 := HI0.out.cell 1
  have HA := Lib.hid (HC1.out W0 HB0.out)
  go_wp2_with fail
  refine HA.out.mono ?_
  rintro e W1 ⟨rfl, hb1⟩
  have hz := HB0.out.size
  have HB2 : Hid (Below w.heap.size w (W1.alloc (.cells #[.int .i64 uc, .int .i64 ua] 24))) := Lib.hid ((HB0.out.trans (hb1.mono hz)).alloc (Nat.le_trans hz hb1.size) _)
  have HF2 : Hid (Blk (W1.alloc (.cells #[.int .i64 uc, .int .i64 ua] 24)) W1.heap.size 24 #[.int .i64 uc, .int .i64 ua]) := Lib.hid (Blk.new _ _ _)
  have HI2 := Lib.hid ((HI0.out.below hb1 HI0.out.lt).alloc (.cells #[.int .i64 uc, .int .i64 ua] 24))
  clear hb1 hz HA HB0 HI0 i0 i1
  go_upto_region 2 with fail
  generalize W1.alloc (.cells #[.int .i64 uc, .int .i64 ua] 24) = W2 at *
  generalize W1.heap.size = g4 at *
  have i0 := HI2.out.cell 0
  have i1 := HI2.out.cell 1
  have HR := Lib.hid (HC2.out W2 HB2.out)
  go_wp2_with fail
  refine HR.out.mono ?_
  rintro e W3 ⟨rfl, hb3⟩
  have hz := HB2.out.size
  have HB4 : Hid (Below w.heap.size w (W3.alloc (.cells #[.int .i64 uc, .int .i64 ua] 24))) := Lib.hid ((HB2.out.trans (hb3.mono hz)).alloc (Nat.le_trans hz hb3.size) _)
  have HF4 := Lib.hid ((HF2.out.below hb3 HF2.out.lt).alloc (.cells #[.int .i64 uc, .int .i64 ua] 24))
  have HG4 : Hid (Blk (W3.alloc (.cells #[.int .i64 uc, .int .i64 ua] 24)) W3.heap.size 24 #[.int .i64 uc, .int .i64 ua]) := Lib.hid (Blk.new _ _ _)
  clear hb3 hz HR HB2 HF2 HI2 i0 i1
  go_upto_region 3 with fail
  generalize W3.alloc (.cells #[.int .i64 uc, .int .i64 ua] 24) = W4 at *
  generalize W3.heap.size = g6 at *
  have x0 := HF4.out.cell 0
  have x1 := HF4.out.cell 1
  have y0 := HG4.out.cell 0
  have y1 := HG4.out.cell 1
  have heq := fun W => eqFaultA uc ua uc ua W
  go_wp2_with fail
  go_ret
  exact ⟨ret_bool (by simp), HB4.out⟩
end Go.Proofs.YtdldochhondifaaDoor
