/-
  live.Out, live.In, clash.Begin.
  Conditions: as the theorems say.
-/
import Derived.Test.YtiknhfbkphoceaaGreatDoorLvH
import Derived.Deep.RegionWith
namespace Go.Proofs.YtiknhfbkphoceaaGreatDoor
open Go.RowKit

theorem RowsOwn.more {w : World} {base base' : Nat} {v : Value} {xss : List (List Int)} (h : RowsOwn w base v xss) (hb : base' ≤ base) : RowsOwn w base' v xss := by
  obtain ⟨rs, h1, h2, h3⟩ := h
  exact ⟨rs, h1, row_more h2 hb, fun i r xs hr hx => row_more (h3 i r xs hr hx) hb⟩
theorem RowsOwn.far {w : World} {base g : Nat} {t : TypeId} {cs : Array Value} {v : Value} {xss : List (List Int)} (h : RowsOwn w base v xss) (hb : Blk w g t cs) (h1 : 26 ≠ t) (h2 : 3 ≠ t) (o : Nat) (u : Value) : RowsOwn (w.setCell ⟨g, o, none⟩ u) base v xss := by
  obtain ⟨rs, h3, h4, h5⟩ := h
  exact ⟨rs, h3, row_far h4 hb h1 u, fun i r xs hr hx => row_far (h5 i r xs hr hx) hb h2 u⟩
set_option maxRecDepth 100000 in
set_option maxHeartbeats 2000000 in
theorem Out_any (gv fv : Value) (gs : List Glob) (fs : List FunU) (k : Nat) (f : FunU) (w : World) (hun : unitF gs fs = (0, 0)) (hf : fs[k]? = some f) (hph : ∀ b ∈ f.blocks, b.phis = []) (hho : HeadOk f) (hbo : BodyOk (fs.map FunU.params) f) (hu : UnitAt w w.heap.size gv fv gs fs) :
    Calls Tryz.prog 50 #[.agg #[gv, fv], .int .i64 (k : Int)] w fun e w' => ∃ v, e = .returned (.tuple #[v, .agg #[.int .i64 0, .int .i64 0]]) ∧ RowsOwn w' w.heap.size v ((List.range f.blocks.length).map fun i => listS f.regs.toNat (outsU f.blocks (inU f.blocks) i)) ∧ Below w.heap.size w w' := by
  have HU := Lib.hid hu
  obtain ⟨A, c, rfl, hl1, hl2⟩ := SlAt.form hu.funs
  obtain ⟨l, hl⟩ : ∃ l, fs.length = l := ⟨_, rfl⟩
  rw [hl] at HU hl1 ⊢
  obtain ⟨n, hnr⟩ : ∃ n : Nat, f.regs = (n : Int) := ⟨f.regs.toNat, by have := hho.p0; have := hho.r0; omega⟩
  have hn : n ≤ 100 := by have := hho.r1; omega
  have hbl : f.blocks.length ≤ 40 := hho.b1
  have HP : Hid (∀ v w', RowsOwn w' w.heap.size v ((List.range f.blocks.length).map fun i => listS n (outsU f.blocks (inU f.blocks) i)) ∧ Below w.heap.size w w' → ∃ v', (Ending.returned (.tuple #[v, .agg #[.int .i64 0, .int .i64 0]])) = .returned (.tuple #[v', .agg #[.int .i64 0, .int .i64 0]]) ∧ RowsOwn w' w.heap.size v' ((List.range f.blocks.length).map fun i => listS f.regs.toNat (outsU f.blocks (inU f.blocks) i)) ∧ Below w.heap.size w w') := Lib.hid fun v w' h => ⟨v, rfl, by rw [hnr, Int.toNat_natCast]; exact h.1, h.2⟩
  have HG := Lib.hid (fun W (h : Below w.heap.size w W) => GFunc_any gv _ gs fs k f W hun hf (HU.out.later h))
  have HAl := Lib.hid (fun W bA bc hb => AllOf_any (fs.map FunU.params) f.name f.params n bA f.blocks.length bc f.blocks W hn hb hbl hph (fun b hb => ⟨by
      have h1 := (hbo.ends b hb).size
      have h2 := (hbo.ends b hb).kind
      rw [h1]
      unfold waysU
      split
      · omega
      · split <;> omega, (hbo.ends b hb).to⟩) (fun b hb x hx => hnr ▸ hbo.list b hb x hx) (fun b hb h => hnr ▸ (hbo.ends b hb).on h))
  have HW0 : Hid (Below w.heap.size w ((w.alloc (.cells #[gv, .slice A l c] 25)).alloc (.cells #[.int .i64 0, .int .i64 0] 28))) := Lib.hid (((Below.refl _ _).alloc (Nat.le_refl _) _).alloc (by simp) _)
  have HC0 : Hid (Blk ((w.alloc (.cells #[gv, .slice A l c] 25)).alloc (.cells #[.int .i64 0, .int .i64 0] 28)) w.heap.size 25 #[gv, .slice A l c]) := Lib.hid ((Blk.new w _ _).alloc _)
  have HX0 : Hid (Blk ((w.alloc (.cells #[gv, .slice A l c] 25)).alloc (.cells #[.int .i64 0, .int .i64 0] 28)) (w.heap.size + 1) 28 #[.int .i64 0, .int .i64 0]) := Lib.hid (by simpa using Blk.new (w.alloc (.cells #[gv, .slice A l c] 25)) 28 #[.int .i64 0, .int .i64 0])
  have Hnr := Lib.hid hnr
  clear hun hf hph hho hbo hu hl
  go_enter Tryz.func50, Tryz.ntmps50
  go_upto_region 1 with fail
  generalize ((w.alloc (.cells #[gv, .slice A l c] 25)).alloc (.cells #[.int .i64 0, .int .i64 0] 28)) = V0 at *
  generalize hg1 : w.heap.size + 1 = g1 at *
  have c0 := HC0.out.cell 0
  have c1 := HC0.out.cell 1
  go_wp2_with fail
  refine (HG.out _ HW0.out).mono ?_
  rintro e w1 ⟨bA, bc, rfl, hbk, hb1⟩
  unfold funV
  rw [Hnr.out]
  have HB2 : Hid (Below w.heap.size w ((w1.alloc (.cells #[.string f.name, .int .i64 f.params, .int .i64 (n : Int), .slice bA f.blocks.length bc] 43)).alloc (.cells #[.int .i64 0, .int .i64 0] 28))) := Lib.hid (((HW0.out.trans (hb1.mono HW0.out.size)).alloc (HW0.out.trans (hb1.mono HW0.out.size)).size _).alloc (by have := (HW0.out.trans (hb1.mono HW0.out.size)).size; simp; omega) _)
  have HX2 := Lib.hid (((HX0.out.below hb1 HX0.out.lt).alloc (.cells #[.string f.name, .int .i64 f.params, .int .i64 (n : Int), .slice bA f.blocks.length bc] 43)).alloc (.cells #[.int .i64 0, .int .i64 0] 28))
  have HF2 : Hid (Blk ((w1.alloc (.cells #[.string f.name, .int .i64 f.params, .int .i64 (n : Int), .slice bA f.blocks.length bc] 43)).alloc (.cells #[.int .i64 0, .int .i64 0] 28)) w1.heap.size 43 #[.string f.name, .int .i64 f.params, .int .i64 (n : Int), .slice bA f.blocks.length bc]) := Lib.hid ((Blk.new w1 _ _).alloc _)
  have HY2 : Hid (Blk ((w1.alloc (.cells #[.string f.name, .int .i64 f.params, .int .i64 (n : Int), .slice bA f.blocks.length bc] 43)).alloc (.cells #[.int .i64 0, .int .i64 0] 28)) (w1.heap.size + 1) 28 #[.int .i64 0, .int .i64 0]) := Lib.hid (by simpa using Blk.new (w1.alloc (.cells #[.string f.name, .int .i64 f.params, .int .i64 (n : Int), .slice bA f.blocks.length bc] 43)) 28 #[.int .i64 0, .int .i64 0])
  have HBk2 : Hid (BlksAt ((w1.alloc (.cells #[.string f.name, .int .i64 f.params, .int .i64 (n : Int), .slice bA f.blocks.length bc] 43)).alloc (.cells #[.int .i64 0, .int .i64 0] 28)) ((w1.alloc (.cells #[.string f.name, .int .i64 f.params, .int .i64 (n : Int), .slice bA f.blocks.length bc] 43)).alloc (.cells #[.int .i64 0, .int .i64 0] 28)).heap.size (.slice bA f.blocks.length bc) f.blocks) := Lib.hid (hbk.move (by have := hb1.size; simp; omega) (kept_of ((hb1.alloc hb1.size _).alloc (by have := hb1.size; simp; omega) _) (Nat.le_refl _)))
  have hg1w : g1 ≠ w1.heap.size := by have := (HX0.out.below hb1 HX0.out.lt).lt; omega
  have hg1v : g1 ≠ w1.heap.size + 1 := by have := (HX0.out.below hb1 HX0.out.lt).lt; omega
  clear hbk hb1 c0 c1 HC0 HX0 HW0
  go_upto_region 2 with fail
  generalize ((w1.alloc (.cells #[.string f.name, .int .i64 f.params, .int .i64 (n : Int), .slice bA f.blocks.length bc] 43)).alloc (.cells #[.int .i64 0, .int .i64 0] 28)) = V2 at *
  generalize hgy : w1.heap.size + 1 = gy at *
  generalize w1.heap.size = gF at *
  have y0 := HY2.out.cell 0
  have y1 := HY2.out.cell 1
  have heq := fun W => eqFault 0 0 0 0 W
  have f0 := HF2.out.cell 0
  have f1 := HF2.out.cell 1
  have f2 := HF2.out.cell 2
  have f3 := HF2.out.cell 3
  go_wp2_with fail
  refine (HAl.out V2 bA bc HBk2.out).mono ?_
  rintro e w3 ⟨iv, ov, gi, go, rfl, hsi, hli, hso, hlo, hb3⟩
  have HB3 : Hid (Below w.heap.size w w3) := Lib.hid (HB2.out.trans (hb3.mono HB2.out.size))
  have HX3 := Lib.hid (HX2.out.below hb3 HX2.out.lt)
  have HY3 := Lib.hid (HY2.out.below hb3 HY2.out.lt)
  have hlr : go.length ≤ 40 := by omega
  have HLs := Lib.hid (fun W (h : Below w3.heap.size w3 W) => lists_any _ ov go n _ W (hso.below h) hn hlr)
  have Hlo := Lib.hid hlo
  clear hsi hso hli hlo hb3 y0 y1 f0 f1 f2 f3 heq hlr
  have y0 := HY3.out.cell 0
  have y1 := HY3.out.cell 1
  have x0 := HX3.out.cell 0
  have x1 := HX3.out.cell 1
  have hgy := HY3.out.lt
  have hgx := HX3.out.lt
  have hxy : gy ≠ g1 := by omega
  go_wp2_with fail
  have HLd := Lib.hid (HLs.out w3.drew ⟨rfl, rfl, rfl, Nat.le_refl _, fun _ _ => rfl⟩)
  have HXd : Hid (Blk w3.drew g1 28 #[.int .i64 0, .int .i64 0]) := Lib.hid HX3.out
  have HYd : Hid (Blk w3.drew gy 28 #[.int .i64 0, .int .i64 0]) := Lib.hid HY3.out
  have z0 := HX3.out.frozen 0
  have z1 := HX3.out.frozen 1
  go_region_with (go_at_call 58; refine HLd.out.mono ?_; rintro e w4 ⟨v4, rfl, hr4, hb4⟩; have HX4 := HXd.out.below hb4 hgx; have HY4 := HYd.out.below hb4 hgy; have y0 := HY4.cell 0; have y1 := HY4.cell 1; have x0 := HX4.cell 0; have x1 := HX4.cell 1; have z0 := HX4.frozen 0; have z1 := HX4.frozen 1; have hgx := HX4.lt; have hgy := HY4.lt)
  all_goals
    have HE : Hid (RowsOwn w4 w.heap.size v4 ((List.range f.blocks.length).map fun i => listS n (outsU f.blocks (inU f.blocks) i))) := Lib.hid (by
      have h := hr4.more HB3.out.size
      rw [Hlo.out] at h
      exact h)
    have HBE : Hid (Below w.heap.size w w4) := Lib.hid (by
      have h := hb4.mono HB3.out.size
      exact HB3.out.trans ⟨h.os, h.tape, h.output, h.size, h.block⟩)
    have hge : w.heap.size ≤ g1 := by omega
    go_wp2_with fail
    exact end_tmp_cell rfl rfl (HX4.set2 _ _) Tryz.underlying28 rfl (by kernel_rfl) rfl (HP.out _ _ ⟨(HE.out.far HX4 (by decide) (by decide) _ _).far (HX4.set_ 0 _) (by decide) (by decide) _ _, (HBE.out.setCell hge _).setCell hge _⟩)
set_option maxRecDepth 100000 in
set_option maxHeartbeats 2000000 in
theorem In_any (gv fv : Value) (gs : List Glob) (fs : List FunU) (k : Nat) (f : FunU) (w : World) (hun : unitF gs fs = (0, 0)) (hf : fs[k]? = some f) (hph : ∀ b ∈ f.blocks, b.phis = []) (hho : HeadOk f) (hbo : BodyOk (fs.map FunU.params) f) (hu : UnitAt w w.heap.size gv fv gs fs) :
    Calls Tryz.prog 35 #[.agg #[gv, fv], .int .i64 (k : Int)] w fun e w' => ∃ v, e = .returned (.tuple #[v, .agg #[.int .i64 0, .int .i64 0]]) ∧ RowsOwn w' w.heap.size v ((List.range f.blocks.length).map fun i => listS f.regs.toNat (inU f.blocks i)) ∧ Below w.heap.size w w' := by
  have HU := Lib.hid hu
  obtain ⟨A, c, rfl, hl1, hl2⟩ := SlAt.form hu.funs
  obtain ⟨l, hl⟩ : ∃ l, fs.length = l := ⟨_, rfl⟩
  rw [hl] at HU hl1 ⊢
  obtain ⟨n, hnr⟩ : ∃ n : Nat, f.regs = (n : Int) := ⟨f.regs.toNat, by have := hho.p0; have := hho.r0; omega⟩
  have hn : n ≤ 100 := by have := hho.r1; omega
  have hbl : f.blocks.length ≤ 40 := hho.b1
  have HP : Hid (∀ v w', RowsOwn w' w.heap.size v ((List.range f.blocks.length).map fun i => listS n (inU f.blocks i)) ∧ Below w.heap.size w w' → ∃ v', (Ending.returned (.tuple #[v, .agg #[.int .i64 0, .int .i64 0]])) = .returned (.tuple #[v', .agg #[.int .i64 0, .int .i64 0]]) ∧ RowsOwn w' w.heap.size v' ((List.range f.blocks.length).map fun i => listS f.regs.toNat (inU f.blocks i)) ∧ Below w.heap.size w w') := Lib.hid fun v w' h => ⟨v, rfl, by rw [hnr, Int.toNat_natCast]; exact h.1, h.2⟩
  have HG := Lib.hid (fun W (h : Below w.heap.size w W) => GFunc_any gv _ gs fs k f W hun hf (HU.out.later h))
  have HAl := Lib.hid (fun W bA bc hb => AllOf_any (fs.map FunU.params) f.name f.params n bA f.blocks.length bc f.blocks W hn hb hbl hph (fun b hb => ⟨by
      have h1 := (hbo.ends b hb).size
      have h2 := (hbo.ends b hb).kind
      rw [h1]
      unfold waysU
      split
      · omega
      · split <;> omega, (hbo.ends b hb).to⟩) (fun b hb x hx => hnr ▸ hbo.list b hb x hx) (fun b hb h => hnr ▸ (hbo.ends b hb).on h))
  have HW0 : Hid (Below w.heap.size w ((w.alloc (.cells #[gv, .slice A l c] 25)).alloc (.cells #[.int .i64 0, .int .i64 0] 28))) := Lib.hid (((Below.refl _ _).alloc (Nat.le_refl _) _).alloc (by simp) _)
  have HC0 : Hid (Blk ((w.alloc (.cells #[gv, .slice A l c] 25)).alloc (.cells #[.int .i64 0, .int .i64 0] 28)) w.heap.size 25 #[gv, .slice A l c]) := Lib.hid ((Blk.new w _ _).alloc _)
  have HX0 : Hid (Blk ((w.alloc (.cells #[gv, .slice A l c] 25)).alloc (.cells #[.int .i64 0, .int .i64 0] 28)) (w.heap.size + 1) 28 #[.int .i64 0, .int .i64 0]) := Lib.hid (by simpa using Blk.new (w.alloc (.cells #[gv, .slice A l c] 25)) 28 #[.int .i64 0, .int .i64 0])
  have Hnr := Lib.hid hnr
  clear hun hf hph hho hbo hu hl
  go_enter Tryz.func35, Tryz.ntmps35
  go_upto_region 1 with fail
  generalize ((w.alloc (.cells #[gv, .slice A l c] 25)).alloc (.cells #[.int .i64 0, .int .i64 0] 28)) = V0 at *
  generalize hg1 : w.heap.size + 1 = g1 at *
  have c0 := HC0.out.cell 0
  have c1 := HC0.out.cell 1
  go_wp2_with fail
  refine (HG.out _ HW0.out).mono ?_
  rintro e w1 ⟨bA, bc, rfl, hbk, hb1⟩
  unfold funV
  rw [Hnr.out]
  have HB2 : Hid (Below w.heap.size w ((w1.alloc (.cells #[.string f.name, .int .i64 f.params, .int .i64 (n : Int), .slice bA f.blocks.length bc] 43)).alloc (.cells #[.int .i64 0, .int .i64 0] 28))) := Lib.hid (((HW0.out.trans (hb1.mono HW0.out.size)).alloc (HW0.out.trans (hb1.mono HW0.out.size)).size _).alloc (by have := (HW0.out.trans (hb1.mono HW0.out.size)).size; simp; omega) _)
  have HX2 := Lib.hid (((HX0.out.below hb1 HX0.out.lt).alloc (.cells #[.string f.name, .int .i64 f.params, .int .i64 (n : Int), .slice bA f.blocks.length bc] 43)).alloc (.cells #[.int .i64 0, .int .i64 0] 28))
  have HF2 : Hid (Blk ((w1.alloc (.cells #[.string f.name, .int .i64 f.params, .int .i64 (n : Int), .slice bA f.blocks.length bc] 43)).alloc (.cells #[.int .i64 0, .int .i64 0] 28)) w1.heap.size 43 #[.string f.name, .int .i64 f.params, .int .i64 (n : Int), .slice bA f.blocks.length bc]) := Lib.hid ((Blk.new w1 _ _).alloc _)
  have HY2 : Hid (Blk ((w1.alloc (.cells #[.string f.name, .int .i64 f.params, .int .i64 (n : Int), .slice bA f.blocks.length bc] 43)).alloc (.cells #[.int .i64 0, .int .i64 0] 28)) (w1.heap.size + 1) 28 #[.int .i64 0, .int .i64 0]) := Lib.hid (by simpa using Blk.new (w1.alloc (.cells #[.string f.name, .int .i64 f.params, .int .i64 (n : Int), .slice bA f.blocks.length bc] 43)) 28 #[.int .i64 0, .int .i64 0])
  have HBk2 : Hid (BlksAt ((w1.alloc (.cells #[.string f.name, .int .i64 f.params, .int .i64 (n : Int), .slice bA f.blocks.length bc] 43)).alloc (.cells #[.int .i64 0, .int .i64 0] 28)) ((w1.alloc (.cells #[.string f.name, .int .i64 f.params, .int .i64 (n : Int), .slice bA f.blocks.length bc] 43)).alloc (.cells #[.int .i64 0, .int .i64 0] 28)).heap.size (.slice bA f.blocks.length bc) f.blocks) := Lib.hid (hbk.move (by have := hb1.size; simp; omega) (kept_of ((hb1.alloc hb1.size _).alloc (by have := hb1.size; simp; omega) _) (Nat.le_refl _)))
  have hg1w : g1 ≠ w1.heap.size := by have := (HX0.out.below hb1 HX0.out.lt).lt; omega
  have hg1v : g1 ≠ w1.heap.size + 1 := by have := (HX0.out.below hb1 HX0.out.lt).lt; omega
  clear hbk hb1 c0 c1 HC0 HX0 HW0
  go_upto_region 2 with fail
  generalize ((w1.alloc (.cells #[.string f.name, .int .i64 f.params, .int .i64 (n : Int), .slice bA f.blocks.length bc] 43)).alloc (.cells #[.int .i64 0, .int .i64 0] 28)) = V2 at *
  generalize hgy : w1.heap.size + 1 = gy at *
  generalize w1.heap.size = gF at *
  have y0 := HY2.out.cell 0
  have y1 := HY2.out.cell 1
  have heq := fun W => eqFault 0 0 0 0 W
  have f0 := HF2.out.cell 0
  have f1 := HF2.out.cell 1
  have f2 := HF2.out.cell 2
  have f3 := HF2.out.cell 3
  go_wp2_with fail
  refine (HAl.out V2 bA bc HBk2.out).mono ?_
  rintro e w3 ⟨iv, ov, gi, go, rfl, hsi, hli, hso, hlo, hb3⟩
  have HB3 : Hid (Below w.heap.size w w3) := Lib.hid (HB2.out.trans (hb3.mono HB2.out.size))
  have HX3 := Lib.hid (HX2.out.below hb3 HX2.out.lt)
  have HY3 := Lib.hid (HY2.out.below hb3 HY2.out.lt)
  have hlr : gi.length ≤ 40 := by omega
  have HLs := Lib.hid (fun W (h : Below w3.heap.size w3 W) => lists_any _ iv gi n _ W (hsi.below h) hn hlr)
  have Hlo := Lib.hid hli
  clear hsi hso hli hlo hb3 y0 y1 f0 f1 f2 f3 heq hlr
  have y0 := HY3.out.cell 0
  have y1 := HY3.out.cell 1
  have x0 := HX3.out.cell 0
  have x1 := HX3.out.cell 1
  have hgy := HY3.out.lt
  have hgx := HX3.out.lt
  have hxy : gy ≠ g1 := by omega
  go_wp2_with fail
  have HLd := Lib.hid (HLs.out w3.drew ⟨rfl, rfl, rfl, Nat.le_refl _, fun _ _ => rfl⟩)
  have HXd : Hid (Blk w3.drew g1 28 #[.int .i64 0, .int .i64 0]) := Lib.hid HX3.out
  have HYd : Hid (Blk w3.drew gy 28 #[.int .i64 0, .int .i64 0]) := Lib.hid HY3.out
  have z0 := HX3.out.frozen 0
  have z1 := HX3.out.frozen 1
  go_region_with (go_at_call 58; refine HLd.out.mono ?_; rintro e w4 ⟨v4, rfl, hr4, hb4⟩; have HX4 := HXd.out.below hb4 hgx; have HY4 := HYd.out.below hb4 hgy; have y0 := HY4.cell 0; have y1 := HY4.cell 1; have x0 := HX4.cell 0; have x1 := HX4.cell 1; have z0 := HX4.frozen 0; have z1 := HX4.frozen 1; have hgx := HX4.lt; have hgy := HY4.lt)
  all_goals
    have HE : Hid (RowsOwn w4 w.heap.size v4 ((List.range f.blocks.length).map fun i => listS n (inU f.blocks i))) := Lib.hid (by
      have h := hr4.more HB3.out.size
      rw [Hlo.out] at h
      exact h)
    have HBE : Hid (Below w.heap.size w w4) := Lib.hid (by
      have h := hb4.mono HB3.out.size
      exact HB3.out.trans ⟨h.os, h.tape, h.output, h.size, h.block⟩)
    have hge : w.heap.size ≤ g1 := by omega
    go_wp2_with fail
    exact end_tmp_cell rfl rfl (HX4.set2 _ _) Tryz.underlying28 rfl (by kernel_rfl) rfl (HP.out _ _ ⟨(HE.out.far HX4 (by decide) (by decide) _ _).far (HX4.set_ 0 _) (by decide) (by decide) _ _, (HBE.out.setCell hge _).setCell hge _⟩)
set_option maxRecDepth 100000 in
set_option maxHeartbeats 2000000 in
theorem Begin_any (gv fv : Value) (gs : List Glob) (fs : List FunU) (k : Nat) (f : FunU) (w : World) (hun : unitF gs fs = (0, 0)) (hf : fs[k]? = some f) (hph : ∀ b ∈ f.blocks, b.phis = []) (hho : HeadOk f) (hbo : BodyOk (fs.map FunU.params) f) (hu : UnitAt w w.heap.size gv fv gs fs) :
    Calls Tryz.prog 12 #[.agg #[gv, fv], .int .i64 (k : Int)] w fun e w' => ∃ v, e = .returned v ∧ OwnInts w' w.heap.size v (listS f.regs.toNat (inU f.blocks 0)) ∧ Below w.heap.size w w' := by
  have HU := Lib.hid hu
  obtain ⟨A, c, rfl, hl1, hl2⟩ := SlAt.form hu.funs
  obtain ⟨l, hl⟩ : ∃ l, fs.length = l := ⟨_, rfl⟩
  rw [hl] at HU hl1 ⊢
  have hb0 : 0 < f.blocks.length := hho.b0
  have HI := Lib.hid (fun W (h : Below w.heap.size w W) => In_any gv _ gs fs k f W hun hf hph hho hbo (HU.out.later h))
  have HW0 : Hid (Below w.heap.size w (w.alloc (.cells #[gv, .slice A l c] 25))) := Lib.hid ((Below.refl _ _).alloc (Nat.le_refl _) _)
  have HC0 : Hid (Blk (w.alloc (.cells #[gv, .slice A l c] 25)) w.heap.size 25 #[gv, .slice A l c]) := Lib.hid (Blk.new w _ _)
  clear hun hf hph hho hbo hu hl
  go_enter Tryz.func12, Tryz.ntmps12
  go_upto_region 1 with fail
  generalize w.alloc (.cells #[gv, .slice A l c] 25) = V0 at *
  have c0 := HC0.out.cell 0
  have c1 := HC0.out.cell 1
  go_wp2_with fail
  refine (HI.out _ HW0.out).mono ?_
  rintro e w1 ⟨v, rfl, hr, hb1⟩
  have HR1 := Lib.hid ((hr.more HW0.out.size).below ((Below.refl _ _).alloc (Nat.le_refl _) (.cells #[.int .i64 0, .int .i64 0] 28)) rfl)
  have HB1 := Lib.hid ((HW0.out.trans (hb1.mono HW0.out.size)).alloc (HW0.out.trans (hb1.mono HW0.out.size)).size (.cells #[.int .i64 0, .int .i64 0] 28))
  clear hr hb1 c0 c1 HC0 HW0
  obtain ⟨rs, hrs, hro, hri⟩ := HR1.out
  rw [List.length_map, List.length_range] at hrs
  obtain ⟨g, cap, rfl, hg1, hg2⟩ := World.ownsRow.form hro (by omega)
  obtain ⟨r, hr0⟩ : ∃ r, rs[0]? = some r := ⟨rs[0]'(by omega), List.getElem?_eq_getElem _⟩
  have hc := row_cell hro hr0
  have HO := Lib.hid (hri 0 r (listS f.regs.toNat (inU f.blocks 0)) hr0 (by rw [List.getElem?_map, List.getElem?_range hb0]; rfl))
  have hrl : (0 : Int) < (rs.length : Int) := by omega
  have hrl63 : (rs.length : Int) ≤ 9223372036854775807 := by
    rcases hro.2 with ⟨e, _⟩ | ⟨_, _, _, e, _, _, h1, h2, _⟩
    · cases e
    · injection e with e1 e2 e3; unfold maxLen at h2; omega
  clear hro hri hr0 HR1
  go_wp2_with fail
  go_ret
  exact ⟨_, rfl, HO.out, HB1.out⟩
end Go.Proofs.YtiknhfbkphoceaaGreatDoor
