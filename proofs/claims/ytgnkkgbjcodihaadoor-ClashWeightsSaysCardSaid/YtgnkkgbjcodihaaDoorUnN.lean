/-
  The walk of the law ClashWeightsSays.
  Conditions: the unit's numbers are Go's.
-/
import Derived.Test.YtgnkkgbjcodihaaDoorUnZ
namespace Go.Proofs.YtgnkkgbjcodihaaDoor
open Go.RowKit

set_option maxRecDepth 100000 in
set_option maxHeartbeats 2000000 in
theorem ClashWeightsSays_any (gv fv : Value) (gs : List Glob) (fs : List FunU) (k : Int) (w : World) (hk : I64 k) (hu : UnitAt w w.heap.size gv fv gs fs) :
    Calls Tryd.prog 4 #[.agg #[gv, fv], .int .i64 k] w fun e w' => e = .returned (.bool true) ∧ Below w.heap.size w w' := by
  have HU := Lib.hid hu
  obtain ⟨A, c, rfl, hl1, hl2⟩ := SlAt.form hu.funs
  have Hk := Lib.hid hk
  have HW0 : Hid (Below w.heap.size w (w.alloc (.cells #[gv, .slice A fs.length c] 25))) := Lib.hid ((Below.refl _ _).alloc (Nat.le_refl _) _)
  have HC0 : Hid (Blk (w.alloc (.cells #[gv, .slice A fs.length c] 25)) w.heap.size 25 #[gv, .slice A fs.length c]) := Lib.hid (Blk.new w _ _)
  clear hu hk
  go_enter Tryd.func4, Tryd.ntmps4
  go_upto_region 1 with fail
  generalize w.alloc (.cells #[gv, .slice A fs.length c] 25) = W0 at *
  have c0 := HC0.out.cell 0
  have c1 := HC0.out.cell 1
  have HU0 := Lib.hid (HU.out.later HW0.out)
  go_wp2_with fail
  refine (Weights_any gv _ gs fs k W0 Hk.out HU0.out).mono ?_
  rintro e W1 ⟨v1, rfl, ho1, hb1⟩
  obtain ⟨uc, ua, hun⟩ : ∃ uc ua, clashF gs fs k = (uc, ua) := ⟨_, _, rfl⟩
  rw [hun]
  have Hun := Lib.hid hun
  have HB1 := Lib.hid (HW0.out.trans (hb1.mono HW0.out.size))
  have HC1 := Lib.hid (HC0.out.below hb1 HC0.out.lt)
  have HO1 : Hid (OwnInts (W1.alloc (.cells #[.int .i64 uc, .int .i64 ua] 28)) W0.heap.size v1 (weightsF gs fs k)) := Lib.hid (ho1.below ((Below.refl _ _).alloc (Nat.le_refl _) _) rfl)
  have HB2 : Hid (Below w.heap.size w (W1.alloc (.cells #[.int .i64 uc, .int .i64 ua] 28))) := Lib.hid (HB1.out.alloc HB1.out.size _)
  have HF2 : Hid (Blk (W1.alloc (.cells #[.int .i64 uc, .int .i64 ua] 28)) W1.heap.size 28 #[.int .i64 uc, .int .i64 ua]) := Lib.hid (Blk.new _ _ _)
  have HC2 := Lib.hid (HC1.out.alloc (.cells #[.int .i64 uc, .int .i64 ua] 28))
  clear hun ho1 hb1 c0 c1 HU0 HC0
  go_upto_region 2 with fail
  generalize W1.alloc (.cells #[.int .i64 uc, .int .i64 ua] 28) = W2 at *
  generalize W1.heap.size = g6 at *
  have c0 := HC2.out.cell 0
  have c1 := HC2.out.cell 1
  have HU2 := Lib.hid (HU.out.later HB2.out)
  go_wp2_with fail
  refine (RWeights_any gv _ gs fs k W2 Hk.out HU2.out).mono ?_
  rintro e W3 ⟨v3, rfl, ho3, hb3⟩
  rw [Hun.out]
  have HB3 := Lib.hid (HB2.out.trans (hb3.mono HB2.out.size))
  have HO1' := Lib.hid (HO1.out.below hb3 rfl)
  have HF3 := Lib.hid (HF2.out.below hb3 HF2.out.lt)
  have HF4 := Lib.hid (HF3.out.alloc (.cells #[.int .i64 uc, .int .i64 ua] 28))
  have HG4 : Hid (Blk (W3.alloc (.cells #[.int .i64 uc, .int .i64 ua] 28)) W3.heap.size 28 #[.int .i64 uc, .int .i64 ua]) := Lib.hid (Blk.new _ _ _)
  have HB4 : Hid (Below w.heap.size w (W3.alloc (.cells #[.int .i64 uc, .int .i64 ua] 28))) := Lib.hid (HB3.out.alloc HB3.out.size _)
  have HI1 : Hid (IntsAt (W3.alloc (.cells #[.int .i64 uc, .int .i64 ua] 28)) (W3.alloc (.cells #[.int .i64 uc, .int .i64 ua] 28)).heap.size v1 (weightsF gs fs k)) := Lib.hid (OwnInts.ints (HO1'.out.below ((Below.refl _ _).alloc (Nat.le_refl _) _) rfl))
  have HI3 : Hid (IntsAt (W3.alloc (.cells #[.int .i64 uc, .int .i64 ua] 28)) (W3.alloc (.cells #[.int .i64 uc, .int .i64 ua] 28)).heap.size v3 (weightsF gs fs k)) := Lib.hid (OwnInts.ints (ho3.below ((Below.refl _ _).alloc (Nat.le_refl _) _) rfl))
  clear ho3 hb3 c0 c1 HU2 HC2 HF2
  go_upto_region 3 with fail
  generalize W3.alloc (.cells #[.int .i64 uc, .int .i64 ua] 28) = W4 at *
  generalize W3.heap.size = g8 at *
  go_wp2_with fail
  refine (Ints_any v1 v3 _ _ W4 HI1.out HI3.out).mono ?_
  rintro e W5 ⟨rfl, hb5⟩
  rw [decide_eq_true rfl]
  have HB5 := Lib.hid (HB4.out.trans (hb5.mono HB4.out.size))
  have x0 := (HF4.out.below hb5 HF4.out.lt).cell 0
  have x1 := (HF4.out.below hb5 HF4.out.lt).cell 1
  have y0 := (HG4.out.below hb5 HG4.out.lt).cell 0
  have y1 := (HG4.out.below hb5 HG4.out.lt).cell 1
  have heq := fun W => eqFault uc ua uc ua W
  clear hb5
  go_wp2_with fail
  go_ret
  exact ⟨ret_bool (by simp), HB5.out⟩
end Go.Proofs.YtgnkkgbjcodihaaDoor
