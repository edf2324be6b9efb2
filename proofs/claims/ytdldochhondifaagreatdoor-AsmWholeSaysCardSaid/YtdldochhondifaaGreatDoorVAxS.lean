/-
  Texts of the claim AsmWholeSays (AxS): what each proves stands at its theorems.
  Conditions: as the theorems say.
-/
import Derived.Test.YtdldochhondifaaGreatDoorVAwI
import Derived.Test.YtdldochhondifaaGreatDoorVAxG
import Derived.Test.YtdldochhondifaaGreatDoorVAtJ
namespace Go.Proofs.YtdldochhondifaaGreatDoor
open Go.RowKit
attribute [local go_sem] Oper.semAt_some

set_option maxRecDepth 100000 in
set_option maxHeartbeats 2000000 in
theorem AsmWholeSays_any (t : List UInt8) (ht : t.length ≤ 9223372036854775807) (w : World) (hS : Std w) :
    Calls Tryz.prog 7 #[.string (mkS t)] w fun e w' => e = .returned (.bool true) ∧ Below w.heap.size w w' := by
  obtain ⟨gs, hgs⟩ : ∃ gs, (wholeP t).1.1 = gs := ⟨_, rfl⟩
  obtain ⟨rs, hrs⟩ : ∃ rs, (wholeP t).1.2 = rs := ⟨_, rfl⟩
  obtain ⟨uc, huc⟩ : ∃ uc, (wholeP t).2.1 = uc := ⟨_, rfl⟩
  obtain ⟨ua, hua⟩ : ∃ ua, (wholeP t).2.2 = ua := ⟨_, rfl⟩
  have HE : Hid (wholeP t = ((gs, rs), (uc, ua))) := Lib.hid (by rw [← hgs, ← hrs, ← huc, ← hua])
  have HT := Lib.hid ht
  have HA := Lib.hid (Whole_any t ht w hS)
  rw [HE.out] at HA
  clear hS hgs hrs huc hua ht
  go_enter Tryz.func7, Tryz.ntmps7
  go_wp2_with fail
  refine HA.out.mono ?_
  rintro e W1 ⟨⟨gA, gn, gc, rA, rn, rc, rfl, hg1, hr1⟩, hb1⟩
  have hbA : Below W1.heap.size W1 ((W1.alloc (.cells #[.slice gA gn gc, .slice rA rn rc] 43)).alloc (.cells #[.int .i64 uc, .int .i64 ua] 24)) := ((Below.refl _ _).alloc (Nat.le_refl _) _).alloc (by simp) _
  have HB2 := Lib.hid (hb1.trans (hbA.mono hb1.size))
  have HI2 : Hid (Blk ((W1.alloc (.cells #[.slice gA gn gc, .slice rA rn rc] 43)).alloc (.cells #[.int .i64 uc, .int .i64 ua] 24)) W1.heap.size 43 #[.slice gA gn gc, .slice rA rn rc]) := Lib.hid ((Blk.new _ _ _).alloc _)
  have HF2 : Hid (Blk ((W1.alloc (.cells #[.slice gA gn gc, .slice rA rn rc] 43)).alloc (.cells #[.int .i64 uc, .int .i64 ua] 24)) (W1.heap.size + 1) 24 #[.int .i64 uc, .int .i64 ua]) := Lib.hid (by
    have h := Blk.new (W1.alloc (.cells #[.slice gA gn gc, .slice rA rn rc] 43)) 24 #[.int .i64 uc, .int .i64 ua]
    simpa using h)
  have HR2 := Lib.hid (And.intro ((hg1.below hbA (Nat.le_refl _)).more hbA.size) ((hr1.below hbA (Nat.le_refl _)).more hbA.size))
  clear hg1 hr1 hb1 hbA HA
  go_upto_region 2 with fail
  generalize (W1.alloc (.cells #[.slice gA gn gc, .slice rA rn rc] 43)).alloc (.cells #[.int .i64 uc, .int .i64 ua] 24) = W2 at *
  generalize W1.heap.size = g2 at *
  have HR := Lib.hid (RWhole_any t HT.out W2)
  rw [HE.out] at HR
  go_wp2_with fail
  refine HR.out.mono ?_
  rintro e W3 ⟨⟨hA, hn, hc, qA, qn, qc, rfl, hg3, hr3⟩, hb3⟩
  have hbB : Below W3.heap.size W3 ((W3.alloc (.cells #[.slice hA hn hc, .slice qA qn qc] 43)).alloc (.cells #[.int .i64 uc, .int .i64 ua] 24)) := ((Below.refl _ _).alloc (Nat.le_refl _) _).alloc (by simp) _
  have hb24 := hb3.trans (hbB.mono hb3.size)
  have HB4 := Lib.hid (HB2.out.trans (hb24.mono HB2.out.size))
  have HI4 := Lib.hid (HI2.out.below hb24 HI2.out.lt)
  have HF4 := Lib.hid (HF2.out.below hb24 HF2.out.lt)
  have HR4 := Lib.hid (And.intro ((HR2.out.1.below hb24 (Nat.le_refl _)).more hb24.size) ((HR2.out.2.below hb24 (Nat.le_refl _)).more hb24.size))
  have HQ4 := Lib.hid (And.intro ((hg3.below hbB (Nat.le_refl _)).more hbB.size) ((hr3.below hbB (Nat.le_refl _)).more hbB.size))
  have HJ4 : Hid (Blk ((W3.alloc (.cells #[.slice hA hn hc, .slice qA qn qc] 43)).alloc (.cells #[.int .i64 uc, .int .i64 ua] 24)) W3.heap.size 43 #[.slice hA hn hc, .slice qA qn qc]) := Lib.hid ((Blk.new _ _ _).alloc _)
  have HG4 : Hid (Blk ((W3.alloc (.cells #[.slice hA hn hc, .slice qA qn qc] 43)).alloc (.cells #[.int .i64 uc, .int .i64 ua] 24)) (W3.heap.size + 1) 24 #[.int .i64 uc, .int .i64 ua]) := Lib.hid (by
    have h := Blk.new (W3.alloc (.cells #[.slice hA hn hc, .slice qA qn qc] 43)) 24 #[.int .i64 uc, .int .i64 ua]
    simpa using h)
  clear hb3 hbB hb24 hg3 hr3 HR HB2 HI2 HF2 HR2
  go_upto_region 3 with fail
  generalize (W3.alloc (.cells #[.slice hA hn hc, .slice qA qn qc] 43)).alloc (.cells #[.int .i64 uc, .int .i64 ua] 24) = W4 at *
  generalize W3.heap.size = g4 at *
  have HSm := Lib.hid (SameImage_same (.slice gA gn gc) (.slice rA rn rc) (.slice hA hn hc) (.slice qA qn qc) gs rs W4 HR4.out.1 HR4.out.2 HQ4.out.1 HQ4.out.2)
  have i0 := HI4.out.cell 0
  have i1 := HI4.out.cell 1
  have j0 := HJ4.out.cell 0
  have j1 := HJ4.out.cell 1
  go_wp2_with fail
  refine HSm.out.mono ?_
  rintro e W5 ⟨rfl, hb5⟩
  have HF5 := Lib.hid (HF4.out.below hb5 HF4.out.lt)
  have HG5 := Lib.hid (HG4.out.below hb5 HG4.out.lt)
  have HB5 := Lib.hid (HB4.out.trans (hb5.mono HB4.out.size))
  clear hb5 HSm i0 i1 j0 j1
  have x0 := HF5.out.cell 0
  have x1 := HF5.out.cell 1
  have y0 := HG5.out.cell 0
  have y1 := HG5.out.cell 1
  have heq := fun W => eqFaultR uc ua uc ua W
  go_wp2_with fail
  go_ret
  exact ⟨ret_bool (by simp), HB5.out⟩
end Go.Proofs.YtdldochhondifaaGreatDoor
