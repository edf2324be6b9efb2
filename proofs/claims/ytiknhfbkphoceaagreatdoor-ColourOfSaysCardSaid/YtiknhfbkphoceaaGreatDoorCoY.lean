/-
  Several texts in one (CoX CoY): what each proves stands at its theorems.
  Conditions: as the theorems say.
-/
import Derived.Test.YtiknhfbkphoceaaGreatDoorCoW
import Derived.Test.YtiknhfbkphoceaaGreatDoorOfG
import Derived.BigQuiet
import Derived.BigRegion
import Derived.Deep.DeepCutAuto
import Derived.Test.YtiknhfbkphoceaaGreatDoorCoK
namespace Go.Proofs.YtiknhfbkphoceaaGreatDoor
open Go.RowKit
attribute [local go_sem] Oper.semAt_some

theorem wrap_succ {n : Nat} (h : n ≤ 1000) : IntKind.i64.wrap ((n : Int) + 1) = (n : Int) + 1 := wrap_in _ ⟨by omega, by omega⟩
theorem wrap64_succ {n : Nat} (h : n ≤ 1000) : wrap64 ((n : Int) + 1) = (n : Int) + 1 := IntWalk.wrap64_in _ ⟨by omega, by omega⟩
/-- The reference's liveness at the head of the first block. -/
theorem LiveHead_any (nm : ByteArray) (ps regs : Int) (bA : Option Addr) (bc : Nat) (blocks : List BlkU) (r : Int) (il : Bool) (W : World) (hil : inU blocks 0 r = il) (hb : BlksAt W W.heap.size (.slice bA blocks.length bc) blocks) (h1 : blocks.length ≤ 40) (h0 : 1 ≤ blocks.length)
    (hto : ∀ b ∈ blocks, ∀ t ∈ b.to, 0 ≤ t ∧ t < (blocks.length : Int)) :
    Calls Tryz.prog 22 #[.agg #[.string nm, .int .i64 ps, .int .i64 regs, .slice bA blocks.length bc], .int .i64 r] W fun e w' => ∃ b0 n0 c0 b1 n1 c1, e = .returned (.slice (some ⟨b0, 0, none⟩) n0 c0) ∧ (0 < n0 ∧ 0 < n1) ∧
      w'.cell? ⟨b0, 0, none⟩ = some (.slice (some ⟨b1, 0, none⟩) n1 c1) ∧ w'.cell? ⟨b1, 0, none⟩ = some (.bool il) ∧ (n0 ≤ 1000 ∧ n1 ≤ 9000000000000000000) ∧ Below W.heap.size W w' := by
  refine (LiveReg_any nm ps regs bA blocks.length bc blocks r W hb h1 hto).mono ?_
  rintro e w' ⟨v, gs', rfl, hv, hl', hg', hb'⟩
  obtain ⟨A', c', rfl⟩ := hv.form
  obtain ⟨g0, g, rfl, hg0, hc0, _, hgb⟩ := hv.cell (i := 0) (by omega)
  have hg2 := hg' 0 g hg0
  have hbl : g.2 ≤ 9000000000000000000 := by
    obtain ⟨b0, hb0⟩ : ∃ b0, blocks[0]? = some b0 := ⟨_, List.getElem?_eq_getElem (by omega)⟩
    rw [hg2, lenR_some hb0]
    have h1 := (hb.at hb0)
    obtain ⟨_, _, _, _, us, hus, _⟩ := h1
    obtain ⟨pv', lv', tv', _, _, hl2, _⟩ := hus
    obtain ⟨_, _, _, _, h3, _⟩ := SlAt.form hl2
    omega
  have hk1 := (hgb.cell 0).trans (boolsT_at (rowB_at (f := fun k => atU blocks 0 k r) (show 0 < g.2 by rw [hg2]; omega)))
  rw [atU_zero, hil] at hk1
  exact ⟨g0, gs'.length, c', g.1, g.2, g.2, rfl, ⟨by omega, by rw [hg2]; omega⟩, hc0, hk1, ⟨by omega, hbl⟩, hb'⟩
set_option maxRecDepth 100000 in
set_option maxHeartbeats 16000000 in
theorem RColour_any (gv fv : Value) (gs : List Glob) (fs : List FunU) (k m : Int) (w : World) (hk : I64 k) (hu : UnitAt w w.heap.size gv fv gs fs) :
    Calls Tryz.prog 5 #[.agg #[gv, fv], .int .i64 k, .int .i64 m] w (ColPost w gs fs k m) := by
  have HU := Lib.hid hu
  obtain ⟨A, c, rfl, hl1, hl2⟩ := SlAt.form hu.funs
  obtain ⟨l, hl⟩ : ∃ l, fs.length = l := ⟨_, rfl⟩
  rw [hl] at HU hl1 ⊢
  have Hl := Lib.hid hl
  have HP : Hid (∀ e w', (∃ v ps, e = .returned (.tuple #[v, .agg #[.int .i64 (colF gs fs k m).1, .int .i64 (colF gs fs k m).2]]) ∧ OwnInts w' w.heap.size v ps ∧ Below w.heap.size w w' ∧
    ((colF gs fs k m).1 ≠ 0 → ps = []) ∧ ((colF gs fs k m).1 = 0 → ∀ f, fs[k.toNat]? = some f → Coloured f (ofF gs fs k) (acrossF gs fs k) (givenS m.toNat) (weightsF gs fs k) (listS f.regs.toNat (inU f.blocks 0)) f.regs.toNat ps)) → ColPost w gs fs k m e w') := Lib.hid fun _ _ h => h
  generalize ColPost w gs fs k m = PE at *
  have Hk : Hid (I64 k) := Lib.hid hk
  have HW0 : Hid (Below w.heap.size w ((w.alloc (.cells #[gv, .slice A l c] 25)).alloc (.cells #[.int .i64 0, .int .i64 0] 28))) := Lib.hid (((Below.refl _ _).alloc (Nat.le_refl _) _).alloc (by simp) _)
  have HC0 : Hid (Blk ((w.alloc (.cells #[gv, .slice A l c] 25)).alloc (.cells #[.int .i64 0, .int .i64 0] 28)) w.heap.size 25 #[gv, .slice A l c]) := Lib.hid ((Blk.new w _ _).alloc _)
  have HX0 : Hid (Blk ((w.alloc (.cells #[gv, .slice A l c] 25)).alloc (.cells #[.int .i64 0, .int .i64 0] 28)) (w.heap.size + 1) 28 #[.int .i64 0, .int .i64 0]) := Lib.hid (by simpa using Blk.new (w.alloc (.cells #[gv, .slice A l c] 25)) 28 #[.int .i64 0, .int .i64 0])
  clear hu hk hl
  go_enter Tryz.func5, Tryz.ntmps5
  go_upto_region 1 with fail
  generalize (w.alloc (.cells #[gv, .slice A l c] 25)).alloc (.cells #[.int .i64 0, .int .i64 0] 28) = W0 at *
  generalize hg1 : w.heap.size + 1 = g1 at *
  have Hlg : Hid (w.heap.size ≤ g1) := Lib.hid (by omega)
  have hul : w.heap.size ≠ g1 := by omega
  have Hul := Lib.hid hul
  clear hg1 hul
  have c0 := HC0.out.cell 0
  have c1 := HC0.out.cell 1
  have HU0 := Lib.hid (HU.out.later HW0.out)
  have HOf := Lib.hid (RClashOf_any gv _ gs fs k W0 Hk.out HU0.out)
  go_wp2_with fail
  refine HOf.out.mono ?_
  rintro e W1 ⟨v, rfl, hv, hb1⟩
  obtain ⟨uc, ua, hun⟩ : ∃ uc ua, clashF gs fs k = (uc, ua) := ⟨_, _, rfl⟩
  rw [hun]
  have Hun := Lib.hid hun
  obtain ⟨vA, vc, rfl⟩ := hv.form
  have hz1 := HW0.out.size
  have HB2 : Hid (Below w.heap.size w (W1.alloc (.cells #[.int .i64 uc, .int .i64 ua] 28))) := Lib.hid ((HW0.out.trans (hb1.mono hz1)).alloc (Nat.le_trans hz1 hb1.size) _)
  have HC2 := Lib.hid ((HC0.out.below hb1 HC0.out.lt).alloc (.cells #[.int .i64 uc, .int .i64 ua] 28))
  have HX2 := Lib.hid ((HX0.out.below hb1 HX0.out.lt).alloc (.cells #[.int .i64 uc, .int .i64 ua] 28))
  have HF2 : Hid (Blk (W1.alloc (.cells #[.int .i64 uc, .int .i64 ua] 28)) W1.heap.size 28 #[.int .i64 uc, .int .i64 ua]) := Lib.hid (Blk.new _ _ _)
  have HV2 := Lib.hid ((hv.below (w' := W1.alloc (.cells #[.int .i64 uc, .int .i64 ua] 28)) ((Below.refl _ _).alloc (Nat.le_refl _) _) rfl).rows)
  clear hun hv hb1 hz1 HU0 HOf HC0 HX0 HW0 c0 c1
  go_upto_region 2 with fail
  generalize W1.alloc (.cells #[.int .i64 uc, .int .i64 ua] 28) = W2 at *
  generalize W1.heap.size = g9 at *
  have x0 := HF2.out.cell 0
  have x1 := HF2.out.cell 1
  have y0 := HX2.out.cell 0
  have y1 := HX2.out.cell 1
  have hfz := HX2.out.frozen 0
  have hfz1 := HX2.out.frozen 1
  by_cases h0 : uc = 0
  · subst h0
    have hcz := clashF_zero (gs := gs) (fs := fs) (k := k) (by rw [Hun.out])
    obtain rfl : ua = 0 := by
      have := hcz.1
      rw [Hun.out] at this
      injection this
    obtain ⟨f, hf, hk0, hk1, hph, hho, hbo⟩ := hcz.2.2
    obtain ⟨n, rfl⟩ : ∃ n : Nat, k = (n : Int) := ⟨k.toNat, by omega⟩
    rw [Int.toNat_natCast] at hf
    have hunf : unitF gs fs = (0, 0) := hcz.2.1.all
    have hnl : n < l := by rw [Hl.out] at hk1; omega
    by_cases hm2 : 2 ≤ m ∧ m ≤ 14
    · obtain ⟨mm, rfl⟩ : ∃ mm : Nat, m = (mm : Int) := ⟨m.toNat, by omega⟩
      have hmm1 : 2 ≤ mm := by omega
      have hmm2 : mm ≤ 14 := by omega
      have hmi1 : ¬ (mm : Int) < 2 := by omega
      have hmi2 : ¬ (mm : Int) > 14 := by omega
      have HE : Hid (colF gs fs (n : Int) (mm : Int) = (0, 0)) := Lib.hid (by unfold colF; rw [if_neg (by rw [Hun.out]; simp), if_neg (by simpa using hm2)])
      obtain ⟨fb, fo, f', bA, bc, rfl, hfb, hfn, f0, f1, f2, f3, hbs⟩ := FunsAt.one HU.out.funs hnl
      obtain rfl : f = f' := by
        rw [hf] at hfn
        exact Option.some.inj hfn
      obtain ⟨nr, hnr⟩ : ∃ nr : Nat, f.regs = (nr : Int) := ⟨f.regs.toNat, by have := hho.p0; have := hho.r0; omega⟩
      have hnr1 : nr ≤ 100 := by have := hho.r1; omega
      have hof : ofF gs fs (n : Int) = ofRows f := by
        unfold ofF
        rw [if_neg (by rw [Hun.out]; simp), Int.toNat_natCast, hf]
      have hlr : (ofRows f).length = nr := by unfold ofRows; simp [hnr]
      have Hrow : Hid (∀ r : Nat, r < nr → ∃ row, (ofRows f)[r]? = some row ∧ row.length ≤ 100 ∧ ∀ o ∈ row, 0 ≤ o ∧ o < (nr : Int)) := Lib.hid (fun r hr => ⟨listS nr (ofS f.blocks (r : Int)), by
        unfold ofRows
        rw [List.getElem?_map, hnr, Int.toNat_natCast, List.getElem?_range hr]
        rfl, by
        have : (listS nr (ofS f.blocks (r : Int))).length ≤ nr := by unfold listS; rw [List.length_map]; exact Nat.le_trans (List.length_filter_le _ _) (by simp)
        omega, fun o ho => ⟨(listS_mem.1 ho).1, (listS_mem.1 ho).2.1⟩⟩)
      have hcf : (clashF gs fs (n : Int)).1 = 0 := by rw [Hun.out]
      have Hfew : Hid ((occBs f.blocks).length ≤ 3000) := Lib.hid (Nat.le_trans (occ_few hcz.2.1 hf) (by omega))
      have Hpr : Hid (∀ r : Nat, r < nr → presentB (weightsF gs fs (n : Int)) (listS nr (inU f.blocks 0)) (r : Int) = (decide (cnt (occBs f.blocks) (r : Int) ≠ 0) || inU f.blocks 0 (r : Int))) := Lib.hid (fun r hr => present_is hcf hf hnr hr)
      have Hwt : Hid (∀ r : Nat, r < nr → (weightsF gs fs (n : Int)).getD (r : Int).toNat 0 = cnt (occBs f.blocks) (r : Int)) := Lib.hid (fun r hr => by
        have hw : weightsF gs fs (n : Int) = tally nr (occBs f.blocks) := by
          unfold weightsF
          rw [if_neg (by rw [hcf]; simp), Int.toNat_natCast, hf]
          show tally f.regs.toNat _ = _
          rw [hnr, Int.toNat_natCast]
        rw [hw, List.getD_eq_getElem?_getD, Int.toNat_natCast, tally_at hr, Option.getD_some]
        rfl)
      have Hfl : Hid (f.blocks.length ≤ 40 ∧ 1 ≤ f.blocks.length ∧ ∀ b ∈ f.blocks, ∀ t ∈ b.to, 0 ≤ t ∧ t < (f.blocks.length : Int)) := Lib.hid ⟨hho.b1, hho.b0, fun b hb t ht => by have := (hbo.ends b hb).to t ht; omega⟩
      have HWish : Hid (∀ ps : List Int, ps.length = nr → WishOk f.blocks ps) := Lib.hid (fun ps hp => wish_ok hcz.2.1 hf hnr hp)
      have Hmany : Hid (manyU f.blocks ≤ 300) := Lib.hid hho.many
      have HWin : Hid (∀ (w' : World) (v : Value) (ps : List Int), OwnInts w' w.heap.size v ps → Below w.heap.size w w' → Coloured f (ofRows f) (acrossF gs fs (n : Int)) (givenS mm) (weightsF gs fs (n : Int)) (listS nr (inU f.blocks 0)) nr ps → PE (.returned (.tuple #[v, .agg #[.int .i64 0, .int .i64 0]])) w') := Lib.hid (fun w' v ps h1 h2 h3 => HP.out _ _ ⟨v, ps, by rw [HE.out], h1, h2, fun h => absurd (by rw [HE.out]) h, fun _ f' hf' => by
        rw [Int.toNat_natCast, hf] at hf'
        cases hf'
        rw [hof, hnr, Int.toNat_natCast, Int.toNat_natCast]
        exact h3⟩)
      have HAc := Lib.hid (fun W (hB : Below w.heap.size w W) => RAcross_any gv _ gs fs (n : Int) W Hk.out (HU.out.later hB))
      have Hbs := Lib.hid hbs
      have Hnr := Lib.hid hnr
      have Hlr := Lib.hid hlr
      rw [hof] at HV2
      rw [hof, hlr]
      generalize weightsF gs fs (n : Int) = ws at *
      generalize acrossF gs fs (n : Int) = acr at *
      clear hcz hf hk0 hk1 hph hho hbo hunf hfn hnr hbs hof hcf hlr
      clear HP HE
      have c0 := HC2.out.cell 0
      have c1 := HC2.out.cell 1
      have f0 := (bcell HB2.out hfb).trans f0
      have f1 := (bcell HB2.out hfb).trans f1
      have f2 := (bcell HB2.out hfb).trans f2
      have f3 := (bcell HB2.out hfb).trans f3
      rw [Hnr.out] at f2
      have hn1 : (n : Int) < (l : Int) := by omega
      have hn0 : (0 : Int) ≤ (n : Int) := Int.natCast_nonneg n
      have HG3 : Hid (Blk (W2.alloc (.cells #[.string f.name, .int .i64 f.params, .int .i64 (nr : Int), .slice bA f.blocks.length bc] 43)) W2.heap.size 43 #[.string f.name, .int .i64 f.params, .int .i64 (nr : Int), .slice bA f.blocks.length bc]) := Lib.hid (Blk.new _ _ _)
      have hb3 : Below W2.heap.size W2 (W2.alloc (.cells #[.string f.name, .int .i64 f.params, .int .i64 (nr : Int), .slice bA f.blocks.length bc] 43)) := (Below.refl _ _).alloc (Nat.le_refl _) _
      have HB3 := Lib.hid (HB2.out.trans (hb3.mono HB2.out.size))
      have HC3 := Lib.hid (HC2.out.below hb3 HC2.out.lt)
      have HX3 := Lib.hid (HX2.out.below hb3 HX2.out.lt)
      have HV3 := Lib.hid (HV2.out.move hb3.size (kept_of hb3 (Nat.le_refl _)))
      clear hb3
      go_upto_region 7 with fail
      generalize W2.alloc (.cells #[.string f.name, .int .i64 f.params, .int .i64 (nr : Int), .slice bA f.blocks.length bc] 43) = W3 at *
      generalize W2.heap.size = g10 at *
      clear c0 c1 x0 x1 y0 y1 hfz hfz1 f0 f1 f2 f3 HB2 HC2 HX2 HV2 HF2
      have c0 := HC3.out.cell 0
      have c1 := HC3.out.cell 1
      go_wp2_with fail
      refine (HAc.out W3 HB3.out).mono ?_
      rintro e W4 ⟨av, rfl, hav, hb4⟩
      rw [Hun.out]
      have hz3 := HB3.out.size
      have hb5 : Below W3.heap.size W3 (W4.alloc (.cells #[.int .i64 0, .int .i64 0] 28)) := hb4.alloc hb4.size _
      have HB5 := Lib.hid (HB3.out.trans (hb5.mono hz3))
      have HX5 := Lib.hid (HX3.out.below hb5 HX3.out.lt)
      have HG5 := Lib.hid (HG3.out.below hb5 HG3.out.lt)
      have HV5 := Lib.hid (HV3.out.move hb5.size (kept_of hb5 (Nat.le_refl _)))
      have HA5 := Lib.hid ((hav.below (w' := W4.alloc (.cells #[.int .i64 0, .int .i64 0] 28)) ((Below.refl _ _).alloc (Nat.le_refl _) _) rfl).ints)
      obtain ⟨aA, ac, rfl⟩ := row_form hav
      clear hav hb4 hb5 hz3 HAc HB3 HC3 HX3 HG3 HV3 c0 c1
      go_upto_region 11 with fail
      generalize W4.alloc (.cells #[.int .i64 0, .int .i64 0] 28) = W5 at *
      generalize W4.heap.size = g12 at *
      have HBs5 : Hid (BlksAt W5 W5.heap.size (.slice bA f.blocks.length bc) f.blocks) := Lib.hid (Hbs.out.move HB5.out.size (kept_of HB5.out (Nat.le_refl _)))
      obtain ⟨B, hBdef⟩ : ∃ B, W5.heap.size = B := ⟨_, rfl⟩
      have HBd := Lib.hid hBdef
      rw [hBdef] at HBs5 HV5 HA5
      have Hg1B : Hid (g1 < B) := Lib.hid (by have := HX5.out.lt; omega)
      have Hg10 : Hid (g10 < B) := Lib.hid (by have := HG5.out.lt; omega)
      clear hBdef Hbs hfb
      go_loopg [13, 14, 15] nr (fun gk pv lv i wr => ∃ (j : Nat) (p q : Value), p = pv ∧ q = lv ∧ j + gk = nr ∧ i = .int .i64 (j : Int) ∧ Hid (Two wr B p q (List.replicate j (-1)) (presentL ws (listS nr (inU f.blocks 0)) j)) ∧ Hid (Below B W5 wr))
      case atStart => exact ⟨0, _, _, rfl, rfl, by omega, rfl, Lib.hid (Two.nil _ _), Lib.hid (Below.refl _ _)⟩
      case round =>
        obtain ⟨j, p, q, rfl, rfl, hj, rfl, HT, HB⟩ := hrel
        have hzB : B ≤ wr.heap.size := by have := HB.out.size; have := HBd.out; omega
        have HGj := Lib.hid (HG5.out.below HB.out Hg10.out)
        have g2 := HGj.out.cell 2
        rcases gk with _ | mk
        · have hjt : ¬ (j : Int) < (nr : Int) := by omega
          obtain rfl : j = nr := by omega
          go_upto_region 16 with fail
          have HX9 := Lib.hid (HX5.out.below HB.out (by have := HX5.out.lt; have := HBd.out; omega))
          have HB9 : Hid (Below w.heap.size w wr) := Lib.hid (HB5.out.trans (HB.out.mono (by have := HBd.out; have := HB5.out.size; omega)))
          have HwB : Hid (w.heap.size ≤ B) := Lib.hid (by have := HBd.out; have := HB5.out.size; omega)
          obtain ⟨W9, rfl⟩ : ∃ W9, W9 = wr := ⟨_, rfl⟩
          rcases Nat.eq_zero_or_pos j with hj0 | hj0
          · subst hj0
            obtain ⟨qA, qc, rfl⟩ := row_form HT.out.snd
            have hp0 : (presentL ws (listS 0 (inU f.blocks 0)) 0).length = 0 := rfl
            rw [hp0]
            have HW := Lib.hid (HWin.out ((W9.setCell ⟨g1, 0, none⟩ (.int .i64 0)).setCell ⟨g1, 1, none⟩ (.int .i64 0)) p [] (own_more (((HT.out.fst).far HX9.out (by decide) _ _).far (HX9.out.set_ 0 _) (by decide) _ _) HwB.out) ((HB9.out.setCell Hlg.out _).setCell Hlg.out _) ⟨[], ⟨.refl _, fun i j x y _ _ h _ _ => absurd h (by simp)⟩, rfl⟩)
            go_loopg [14] 0 (fun gk lv wx => gk = 0 ∧ lv = .slice qA 0 qc ∧ wx = W9)
            case atStart => exact ⟨rfl, rfl, rfl⟩
            case round =>
              obtain ⟨rfl, rfl, rfl⟩ := hrel
              have y0 := HX9.out.cell 0
              have y1 := HX9.out.cell 1
              have hfz := HX9.out.frozen 0
              have hfz1 := HX9.out.frozen 1
              go_wp2_with fail
              refine end_tmp_cell rfl rfl (HX9.out.set2 (.int .i64 0) (.int .i64 0)) Tryz.underlying28 rfl (by kernel_rfl) rfl ?_
              exact HW.out
          obtain ⟨g, cap, rfl, hgB, hgl, hcap, hcap63, _⟩ := own_some HT.out.fst (by rw [List.length_replicate]; exact hj0)
          have HS9 : Hid (SortNow W9 W9 B g cap j (List.replicate j (-1))) := Lib.hid ⟨by have := HT.out.fst; rwa [List.length_replicate] at this, BelowBut.refl _ _ _, by simp⟩
          have HO9 := Lib.hid HT.out.snd
          have Hq9 : Hid (∀ k, q.ownBlock = some k → k ≠ g) := Lib.hid (fun k hk e => HT.out.far k hk (by rw [e]; rfl))
          rw [List.length_replicate] at hcap ⊢
          have HG9 := Lib.hid (HG5.out.below HB.out Hg10.out)
          have HV9 := Lib.hid (HV5.out.move (Nat.le_refl B) (kept_of HB.out (Nat.le_refl _)))
          have HA9 := Lib.hid (HA5.out.move (Nat.le_refl B) (kept_of HB.out (Nat.le_refl _)))
          have HBs9 := Lib.hid (HBs5.out.move (Nat.le_refl B) (kept_of HB.out (Nat.le_refl _)))
          obtain ⟨col, hcol⟩ : ∃ col : List Int → List Int, col = fun dn => colS (fun ps r => wishesL f (givenS mm) ps r) (ofRows f) acr (givenS mm) (List.replicate j (-1)) dn := ⟨_, rfl⟩
          have Hcol := Lib.hid hcol
          have Hcol0 : Hid (col [] = List.replicate j (-1)) := Lib.hid (by rw [hcol]; rfl)
          have Hcoll : Hid (∀ dn, (col dn).length = j) := Lib.hid (fun dn => by rw [hcol]; show (colS _ _ _ _ _ dn).length = _; rw [colS_len, List.length_replicate])
          obtain ⟨P, hP⟩ : ∃ P, presentL ws (listS j (inU f.blocks 0)) j = P := ⟨_, rfl⟩
          have HPm : Hid (∀ r ∈ P, 0 ≤ r ∧ r < (j : Int)) := Lib.hid (fun r hr => by rw [← hP] at hr; exact (presentL_mem.1 hr).1)
          have HPa : Hid (P.Pairwise (· < ·)) := Lib.hid (by rw [← hP]; exact seg_pw (presentL_asc _ _ _))
          have HPn := Lib.hid hP
          rw [hP] at HO9
          have hplen : P.length ≤ j := by rw [← hP]; exact presentL_len _ _ _
          have HPl := Lib.hid hplen
          obtain ⟨plen, hpl⟩ : ∃ plen, P.length = plen := ⟨_, rfl⟩
          have Hpl := Lib.hid hpl
          clear hcol hP hpl HT HB HGj g2 HX5 HG5 HV5 HA5 HBs5 HB5 hplen
          have hjn100 := hnr1
          have Hg1 : Hid (g1 < B) := Hg1B
          have HBs : Hid (B ≤ W9.heap.size) := Lib.hid hzB
          go_loopg [14] plen (fun gk lv wx => ∃ (q : Value) (dn lf : List Int) (Wx : World), q = lv ∧ Wx = wx ∧ lf.length = gk ∧ Hid (Sel (fun x => ws.getD x.toNat 0) P dn lf) ∧ Hid (SortNow W9 wx B g cap j (col dn)) ∧ Hid (OwnInts wx B q lf) ∧ Hid (∀ k, q.ownBlock = some k → k ≠ g) ∧ Hid (∀ y ∈ col dn, -1 ≤ y ∧ y ≤ 1000) ∧ Hid (∀ y ∈ lf, (col dn)[y.toNat]? = some (-1)))
          case atStart => exact ⟨_, [], P, _, rfl, rfl, Hpl.out, Lib.hid (Sel.start HPa.out), Lib.hid (by rw [Hcol0.out]; exact HS9.out), HO9, Hq9, Lib.hid (by rw [Hcol0.out]; intro y hy; rw [(List.mem_replicate.1 hy).2]; decide), Lib.hid (fun y hy => by rw [Hcol0.out, List.getElem?_replicate, if_pos (by have := HPm.out y hy; omega)])⟩
          case round =>
            obtain ⟨q, dn, lf, Wb, rfl, rfl, hlf, HSel, HSo, HO, Hq, Hbd, Hun⟩ := hrel
            have hBW9 := HBs.out
            have HXb := Lib.hid (HSo.out.but.blk HX9.out HX9.out.lt (by have := Hg1.out; omega))
            rcases gk with _ | mk
            · obtain rfl : lf = [] := List.eq_nil_of_length_eq_zero hlf
              obtain ⟨qA, qc, rfl⟩ := row_form HO.out
              have y0 := HXb.out.cell 0
              have y1 := HXb.out.cell 1
              have hfz := HXb.out.frozen 0
              have hfz1 := HXb.out.frozen 1
              have HBw : Hid (Below w.heap.size w Wb) := Lib.hid (HB9.out.trans (HSo.out.but.below (by have := HwB.out; omega) (by have := HwB.out; omega)))
              have HW := Lib.hid (HWin.out ((Wb.setCell ⟨g1, 0, none⟩ (.int .i64 0)).setCell ⟨g1, 1, none⟩ (.int .i64 0)) _ (col dn) (own_more (((HSo.out.own).far HXb.out (by decide) _ _).far (HXb.out.set_ 0 _) (by decide) _ _) HwB.out) ((HBw.out.setCell Hlg.out _).setCell Hlg.out _) ⟨dn, by rw [HPn.out]; exact HSel.out.done, by rw [Hcol.out]⟩)
              rw [List.length_nil]
              go_wp2_with fail
              refine end_tmp_cell rfl rfl (HXb.out.set2 (.int .i64 0) (.int .i64 0)) Tryz.underlying28 rfl (by kernel_rfl) rfl ?_
              exact HW.out
            · have HGb := Lib.hid (HSo.out.but.blk HG9.out HG9.out.lt (by have := Hg10.out; omega))
              obtain ⟨len, hlen⟩ : ∃ len, lf.length = len := ⟨_, rfl⟩
              have Hlf := Lib.hid hlen
              rw [hlen] at hlf
              obtain ⟨lb, lc, rfl, hlbB, hlbw, hlc, hlc63, hlcell⟩ := own_some HO.out (by rw [hlen]; omega)
              have Hlm := Lib.hid hlf
              have hlp0 : 0 < len := by omega
              have HLb := Lib.hid hlcell
              have hlbg := Hq.out lb rfl
              rw [hlen] at hlc ⊢
              have hlp : (0 : Int) < (len : Int) := by omega
              have hlp' : (len : Int) > 0 := hlp
              have hll100 : len ≤ 100 := by
                have h1 := HSel.out.perm.length_eq
                rw [List.length_append, hlen] at h1
                have := HPl.out
                omega
              have HBb := Lib.hid (HBs9.out.move (Nat.le_trans hBW9 HSo.out.but.size) (HSo.out.but.kept hBW9 hgB))
              have HLr : Hid (∀ y ∈ lf, 0 ≤ y ∧ y < (j : Int)) := Lib.hid (fun y hy => HPm.out y (HSel.out.mem hy))
              have hgb10 : g10 < Wb.heap.size := HGb.out.lt
              clear hlen hlcell hlf
              go_upto_region 19 with fail
              go_loopg [16, 17] (len - 1) (fun gk bv iv wx => ∃ (b k : Nat) (Wx : World), Wx = wx ∧ bv = .int .i64 (b : Int) ∧ iv = .int .i64 (k : Int) ∧ k + gk = len ∧ 1 ≤ k ∧ Hid (BestAt (fun x => ws.getD x.toNat 0) lf k b) ∧ Hid (Below Wb.heap.size Wb wx))
              case atStart => exact ⟨0, 1, _, rfl, rfl, rfl, by omega, Nat.le_refl _, Lib.hid (BestAt.one _ _), Lib.hid (Below.refl _ _)⟩
              case round =>
                obtain ⟨b3, i3, Wl, rfl, rfl, rfl, hik, hi1, HBe, HBl⟩ := hrel
                have hb3 := HBe.out.1
                have hb30 : (0 : Int) ≤ (b3 : Int) := Int.natCast_nonneg b3
                have hb31 : (b3 : Int) < (len : Int) := by omega
                have HGl := Lib.hid (HGb.out.below HBl.out hgb10)
                have f0 := HGl.out.cell 0
                have f1 := HGl.out.cell 1
                have f2 := HGl.out.cell 2
                have f3 := HGl.out.cell 3
                have hg10l : g10 < Wl.heap.size := Nat.lt_of_lt_of_le hgb10 HBl.out.size
                have hlbl : lb < Wl.heap.size := Nat.lt_of_lt_of_le hlbw HBl.out.size
                have HLc : Hid (∀ (i : Nat) (z : Int), lf[i]? = some z → Wl.cell? ⟨lb, i, none⟩ = some (.int .i64 z)) := Lib.hid (fun i z hz => (bcell HBl.out hlbw).trans (HLb.out i z hz))
                have hbl3 : b3 < lf.length := by have := Hlf.out; omega
                obtain ⟨y, hy⟩ : ∃ y, lf[b3]? = some y := ⟨lf[b3], List.getElem?_eq_getElem hbl3⟩
                have Hy := Lib.hid hy
                have cy := HLc.out b3 y hy
                have hyr := HLr.out y (List.mem_of_getElem? hy)
                have hy0 := hyr.1
                rcases gk with _ | nk
                · obtain rfl : i3 = len := by omega
                  have hit : ¬ (i3 : Int) < (i3 : Int) := by omega
                  go_upto_region 24 with fail
                  clear cy
                  obtain ⟨W6, rfl⟩ : ∃ W6, W6 = Wl := ⟨_, rfl⟩
                  have hb32 : (b3 : Int) ≤ (i3 : Int) := by omega
                  have hb33 : (b3 : Int) + 1 ≤ (i3 : Int) := by omega
                  have hb34 : (0 : Int) ≤ (b3 : Int) + 1 := by omega
                  have hb35 : b3 + 1 ≤ i3 := by omega
                  have hb36 : b3 ≤ i3 := by omega
                  have hlcb : b3 ≤ lc := by omega
                  have hb1k : b3 ≤ 1000 := by omega
                  have hw1 : IntKind.i64.wrap ((b3 : Int) + 1) = (b3 : Int) + 1 := wrap_succ hb1k
                  have hw2 : wrap64 ((b3 : Int) + 1) = (b3 : Int) + 1 := wrap64_succ hb1k
                  have HWr1 := Lib.hid hw1
                  have HWr2 := Lib.hid hw2
                  clear hw1 hw2
                  obtain ⟨pw, hp0, hp1, hp2, hp3, hp4, hp5, hp6, hp7, hp8, hp9⟩ : ∃ pw : Nat → Option Value, pw 0 = some (.slice (some ⟨lb, 0, none⟩) i3 lc) ∧ pw 1 = some (.int .i64 (b3 : Int)) ∧ pw 2 = some (.slice (some ⟨lb, 0, none⟩) b3 lc) ∧ pw 3 = none ∧ pw 4 = some (.slice (some ⟨lb, 0, none⟩) i3 lc) ∧ pw 5 = some (.int .i64 (b3 : Int)) ∧ pw 6 = some (.int .i64 ((b3 : Int) + 1)) ∧ pw 7 = some (.slice (if lc = b3 + 1 then some ⟨lb, 0, none⟩ else some ⟨lb, b3 + 1, none⟩) (i3 - (b3 + 1)) (lc - (b3 + 1))) ∧ pw 8 = none ∧ pw 9 = none :=
                    ⟨fun k => ([some (.slice (some ⟨lb, 0, none⟩) i3 lc), some (.int .i64 (b3 : Int)), some (.slice (some ⟨lb, 0, none⟩) b3 lc), none, some (.slice (some ⟨lb, 0, none⟩) i3 lc), some (.int .i64 (b3 : Int)), some (.int .i64 ((b3 : Int) + 1)), some (.slice (if lc = b3 + 1 then some ⟨lb, 0, none⟩ else some ⟨lb, b3 + 1, none⟩) (i3 - (b3 + 1)) (lc - (b3 + 1))), none, none] : List (Option Value)).getD k none, rfl, rfl, rfl, rfl, rfl, rfl, rfl, rfl, rfl, rfl⟩
                  have P0 := Lib.hid hp0
                  have P1 := Lib.hid hp1
                  have P2 := Lib.hid hp2
                  have P3 := Lib.hid hp3
                  have P4 := Lib.hid hp4
                  have P5 := Lib.hid hp5
                  have P6 := Lib.hid hp6
                  have P7 := Lib.hid hp7
                  have P8 := Lib.hid hp8
                  have P9 := Lib.hid hp9
                  clear hp0 hp1 hp2 hp3 hp4 hp5 hp6 hp7 hp8 hp9
                  have HS0 : Hid (DelRun pw W6 (lf.take b3) (lf.eraseIdx b3) (fun _ => none) { W6 with drawn := W6.drawn + 1 }) := Lib.hid (DelRun.start (below_drew (Below.refl _ _)))
                  refine wp_region_keepsL (DelRun pw W6 (lf.take b3) (lf.eraseIdx b3)) (by kernel_rfl) (by kernel_rfl) HS0.out ?_ ?_
                  · refine ⟨⟨rfl, ?_⟩, ⟨rfl, ?_⟩, ⟨rfl, ?_⟩, ⟨rfl, ?_⟩, ⟨rfl, ?_⟩, ⟨rfl, ?_⟩, ⟨rfl, ?_⟩, ⟨rfl, ?_⟩, ⟨rfl, ?_⟩, ⟨rfl, ?_⟩, trivial⟩
                    · refine KeepsL.mk (fun j => j == 2 || j == 9) ?_ ?_
                      · kernel_rfl
                      intro σ vs w' hvs hcl' hC hk hdep
                      simp only [putO, Nat.reduceAdd, Nat.reduceBEq, Bool.or_self, Bool.or_true, Bool.or_false, Bool.false_eq_true, if_true, if_false, Act.put, List.setIfInBounds_toArray, List.set_cons_succ, List.set_cons_zero]
                      have HC := Lib.hid hC
                      have HD := Lib.hid hdep
                      have HL := Lib.hid hcl'
                      have HS := Lib.hid hk
                      clear hC hdep hcl' hk hvs
                      go_simp
                      refine ⟨?_⟩
                      refine HC.out.say P0.out ?_
                      decide
                    · refine KeepsL.mk (fun j => j == 2 || j == 9) ?_ ?_
                      · kernel_rfl
                      intro σ vs w' hvs hcl' hC hk hdep
                      simp only [putO, Nat.reduceAdd, Nat.reduceBEq, Bool.or_self, Bool.or_true, Bool.or_false, Bool.false_eq_true, if_true, if_false, Act.put, List.setIfInBounds_toArray, List.set_cons_succ, List.set_cons_zero]
                      have HC := Lib.hid hC
                      have HD := Lib.hid hdep
                      have HL := Lib.hid hcl'
                      have HS := Lib.hid hk
                      clear hC hdep hcl' hk hvs
                      go_simp
                      refine ⟨?_⟩
                      refine HC.out.say P1.out ?_
                      decide
                    · refine KeepsL.mk (fun j => j == 3 || j == 9) ?_ ?_
                      · kernel_rfl
                      intro σ vs w' hvs hcl' hC hk hdep
                      simp only [putO, Nat.reduceAdd, Nat.reduceBEq, Bool.or_self, Bool.or_true, Bool.or_false, Bool.false_eq_true, if_true, if_false, Act.put, List.setIfInBounds_toArray, List.set_cons_succ, List.set_cons_zero]
                      have HC := Lib.hid hC
                      have HD := Lib.hid hdep
                      have HL := Lib.hid hcl'
                      have HS := Lib.hid hk
                      clear hC hdep hcl' hk hvs
                      have e0 := HC.out.val (HD.out ⟨0, .data⟩ (by simp) rfl) P0.out
                      have e1 := HC.out.val (HD.out ⟨1, .data⟩ (by simp) rfl) P1.out
                      rw [e0, e1]
                      go_simp
                      refine ⟨?_⟩
                      refine HC.out.say P2.out ?_
                      decide
                    · refine KeepsL.mk (fun j => j == 8 || j == 9) ?_ ?_
                      · kernel_rfl
                      intro σ vs w' hvs hcl' hC hk hdep
                      simp only [putO, Nat.reduceAdd, Nat.reduceBEq, Bool.or_self, Bool.or_true, Bool.or_false, Bool.false_eq_true, if_true, if_false, Act.put, List.setIfInBounds_toArray, List.set_cons_succ, List.set_cons_zero]
                      have HC := Lib.hid hC
                      have HD := Lib.hid hdep
                      have HL := Lib.hid hcl'
                      have HS := Lib.hid hk
                      clear hC hdep hcl' hk hvs
                      have e2 := HC.out.val (HD.out ⟨2, .data⟩ (by simp) rfl) P2.out
                      refine ⟨?_⟩
                      refine upon_append _ _ rfl W6.heap.size (.slice none 0 0) [] rfl (OwnInts.nil _ _) (some ⟨lb, 0, none⟩) b3 lc (lf.take b3) ?_ (by rw [List.length_take]; have := Hlf.out; omega) (fun _ => ⟨lb, 0, rfl, fun i z hi => ?_⟩) (by simp; omega) HC.out.low.size ?_
                      · simpa [Act.eval] using e2
                      · rw [Nat.zero_add]
                        exact (bcell HC.out.low hlbl).trans (HLc.out i z (by rw [List.getElem?_take] at hi; split at hi; exact hi; cases hi))
                      · intro v' w2 h1 h2
                        exact HC.out.cut1 P3.out (not_done HL.out HS.out (j := 8) rfl rfl) h2 (by rwa [List.nil_append] at h1)
                    · refine KeepsL.mk (fun j => j == 7 || j == 9) ?_ ?_
                      · kernel_rfl
                      intro σ vs w' hvs hcl' hC hk hdep
                      simp only [putO, Nat.reduceAdd, Nat.reduceBEq, Bool.or_self, Bool.or_true, Bool.or_false, Bool.false_eq_true, if_true, if_false, Act.put, List.setIfInBounds_toArray, List.set_cons_succ, List.set_cons_zero]
                      have HC := Lib.hid hC
                      have HD := Lib.hid hdep
                      have HL := Lib.hid hcl'
                      have HS := Lib.hid hk
                      clear hC hdep hcl' hk hvs
                      go_simp
                      refine ⟨?_⟩
                      refine HC.out.say P4.out ?_
                      decide
                    · refine KeepsL.mk (fun j => j == 6 || j == 9) ?_ ?_
                      · kernel_rfl
                      intro σ vs w' hvs hcl' hC hk hdep
                      simp only [putO, Nat.reduceAdd, Nat.reduceBEq, Bool.or_self, Bool.or_true, Bool.or_false, Bool.false_eq_true, if_true, if_false, Act.put, List.setIfInBounds_toArray, List.set_cons_succ, List.set_cons_zero]
                      have HC := Lib.hid hC
                      have HD := Lib.hid hdep
                      have HL := Lib.hid hcl'
                      have HS := Lib.hid hk
                      clear hC hdep hcl' hk hvs
                      go_simp
                      refine ⟨?_⟩
                      refine HC.out.say P5.out ?_
                      decide
                    · refine KeepsL.mk (fun j => j == 7 || j == 9) ?_ ?_
                      · kernel_rfl
                      intro σ vs w' hvs hcl' hC hk hdep
                      simp only [putO, Nat.reduceAdd, Nat.reduceBEq, Bool.or_self, Bool.or_true, Bool.or_false, Bool.false_eq_true, if_true, if_false, Act.put, List.setIfInBounds_toArray, List.set_cons_succ, List.set_cons_zero]
                      have HC := Lib.hid hC
                      have HD := Lib.hid hdep
                      have HL := Lib.hid hcl'
                      have HS := Lib.hid hk
                      clear hC hdep hcl' hk hvs
                      have e5 := HC.out.val (HD.out ⟨5, .data⟩ (by simp) rfl) P5.out
                      rw [e5]
                      have hw1 := HWr1.out
                      have hw2 := HWr2.out
                      go_simp
                      refine ⟨?_⟩
                      refine HC.out.say P6.out ?_
                      decide
                    · refine KeepsL.mk (fun j => j == 8 || j == 9) ?_ ?_
                      · kernel_rfl
                      intro σ vs w' hvs hcl' hC hk hdep
                      simp only [putO, Nat.reduceAdd, Nat.reduceBEq, Bool.or_self, Bool.or_true, Bool.or_false, Bool.false_eq_true, if_true, if_false, Act.put, List.setIfInBounds_toArray, List.set_cons_succ, List.set_cons_zero]
                      have HC := Lib.hid hC
                      have HD := Lib.hid hdep
                      have HL := Lib.hid hcl'
                      have HS := Lib.hid hk
                      clear hC hdep hcl' hk hvs
                      have e4 := HC.out.val (HD.out ⟨4, .data⟩ (by simp) rfl) P4.out
                      have e6 := HC.out.val (HD.out ⟨6, .data⟩ (by simp) rfl) P6.out
                      rw [e4, e6]
                      go_simp
                      refine ⟨?_⟩
                      refine HC.out.say P7.out ?_
                      decide
                    · refine KeepsL.mk (fun j => j == 9) ?_ ?_
                      · kernel_rfl
                      intro σ vs w' hvs hcl' hC hk hdep
                      simp only [putO, Nat.reduceAdd, Nat.reduceBEq, Bool.false_eq_true, if_true, if_false, Act.put, List.setIfInBounds_toArray, List.set_cons_succ, List.set_cons_zero]
                      have HC := Lib.hid hC
                      have HD := Lib.hid hdep
                      have HL := Lib.hid hcl'
                      have HS := Lib.hid hk
                      clear hC hdep hcl' hk hvs
                      have h3 := HD.out ⟨3, .data⟩ (by simp) rfl
                      have e7 := HC.out.val (HD.out ⟨7, .data⟩ (by simp) rfl) P7.out
                      refine ⟨?_⟩
                      refine upon_append _ _ rfl W6.heap.size (vs 3) (lf.take b3) ?_ (HC.out.2.1 _ h3 HS.out) (if lc = b3 + 1 then some ⟨lb, 0, none⟩ else some ⟨lb, b3 + 1, none⟩) (i3 - (b3 + 1)) (lc - (b3 + 1)) (lf.drop (b3 + 1)) ?_ (by rw [List.length_drop]; have := Hlf.out; omega) (fun hm => ⟨lb, b3 + 1, by rw [if_neg (by omega)], fun i z hi => ?_⟩) (by rw [List.length_take]; omega) HC.out.low.size ?_
                      · simp [Act.eval]
                      · simpa [Act.eval] using e7
                      · exact (bcell HC.out.low hlbl).trans (HLc.out _ z (by rw [List.getElem?_drop] at hi; exact hi))
                      · intro v' w2 h1 h2
                        exact HC.out.cut2 P8.out (not_done HL.out HS.out (j := 9) rfl rfl) h2 (by rwa [← List.eraseIdx_eq_take_drop_succ] at h1)
                    · refine KeepsL.mk (fun j => false) ?_ ?_
                      · kernel_rfl
                      intro σ vs w' hvs hcl' hC hk hdep
                      simp only [putO, Nat.reduceAdd, Bool.false_eq_true, if_false, Act.put, List.setIfInBounds_toArray, List.set_cons_succ, List.set_cons_zero]
                      have HC := Lib.hid hC
                      have HD := Lib.hid hdep
                      have HL := Lib.hid hcl'
                      have HS := Lib.hid hk
                      clear hC hdep hcl' hk hvs
                      have h8 := HD.out ⟨8, .data⟩ (by simp) rfl
                      go_simp
                      refine ⟨?_⟩
                      exact HC.out.out P9.out h8
                  intro σ vs w9 hC hall
                  have hb9 := hC.low
                  have HO2 := Lib.hid (hC.2.2.1 _ (hC.2.2.2 _ (hall 9 (by decide))))
                  simp only [putO, Act.put, List.setIfInBounds_toArray, List.set_cons_succ, List.set_cons_zero, Nat.reduceAdd]
                  have HB9l := Lib.hid (HBl.out.trans (hb9.mono HBl.out.size))
                  have hz69 : W6.heap.size ≤ w9.heap.size := hb9.size
                  generalize vs 0 = s'0 at *
                  generalize vs 1 = s'1 at *
                  generalize vs 2 = s'2 at *
                  generalize vs 3 = s'3 at *
                  generalize vs 4 = s'4 at *
                  generalize vs 5 = s'5 at *
                  generalize vs 6 = s'6 at *
                  generalize vs 7 = s'7 at *
                  generalize vs 8 = s'8 at *
                  generalize vs 9 = q2 at *
                  clear hC hall HS0 hb9 P0 P1 P2 P3 P4 P5 P6 P7 P8 P9
                  obtain ⟨rn, rfl⟩ : ∃ rn : Nat, y = (rn : Int) := ⟨y.toNat, by omega⟩
                  have hrn : rn < j := by have := hyr.2; omega
                  have hym : (rn : Int) ∈ lf := List.mem_of_getElem? Hy.out
                  obtain ⟨ps, hps⟩ : ∃ ps, col dn = ps := ⟨_, rfl⟩
                  obtain ⟨lf2, hlf2d⟩ : ∃ lf2, lf.eraseIdx b3 = lf2 := ⟨_, rfl⟩
                  have hlf2 : lf2.length = mk := by
                    rw [← hlf2d, List.length_eraseIdx, if_pos hbl3]
                    have := Hlm.out
                    have := Hlf.out
                    omega
                  have HSel2 : Hid (Sel (fun x => ws.getD x.toNat 0) P (dn ++ [(rn : Int)]) lf2) := Lib.hid (by rw [← hlf2d]; exact HSel.out.step Hy.out (by rw [Hlf.out]; exact HBe.out))
                  rw [hlf2d] at HO2
                  have Hpsl : Hid (ps.length = j) := Lib.hid (by rw [← hps]; exact Hcoll.out dn)
                  have Hps1 : Hid (ps[rn]? = some (-1)) := Lib.hid (by have := Hun.out _ hym; rwa [hps, Int.toNat_natCast] at this)
                  have HS8a : SortNow W9 w9 B g cap j ps := by rw [← hps]; exact HSo.out.below HB9l.out
                  obtain ⟨row, hrow, hrl100, hro⟩ := Hrow.out rn hrn
                  obtain ⟨_, vb, voff, rv, row', rfl, hvbB, hrow', hrc, hri⟩ := HV9.out.at_ (r := rn) (by rw [Hlr.out]; exact hrn)
                  obtain rfl : row = row' := Option.some.inj (hrow.symm.trans hrow')
                  have hbsz := HBs.out
                  have Hvb : Hid (vb < W9.heap.size ∧ vb ≠ g) := Lib.hid ⟨by omega, by omega⟩
                  have Hrc := Lib.hid hrc
                  have Hri := Lib.hid hri
                  have Hro := Lib.hid hro
                  obtain ⟨rl, hrl⟩ : ∃ rl, row.length = rl := ⟨_, rfl⟩
                  have Hrl := Lib.hid hrl
                  have hrl100b : rl ≤ 100 := by omega
                  obtain ⟨wl, hwl⟩ : ∃ wl, asksL f ps (rn : Int) = wl := ⟨_, rfl⟩
                  obtain ⟨ll, hll⟩ : ∃ ll, wl.length = ll := ⟨_, rfl⟩
                  have Hll := Lib.hid hll
                  obtain ⟨pX, hpX⟩ : ∃ pX, paintS row acr (givenS mm) ps (rn : Int) wl = pX := ⟨_, rfl⟩
                  have HpX := Lib.hid hpX
                  have hpsb : ∀ y ∈ ps, -1 ≤ y ∧ y ≤ 1000 := by rw [← hps]; exact Hbd.out
                  have hps' : colS (fun ps r => wishesL f (givenS mm) ps r) (ofRows f) acr (givenS mm) (List.replicate j (-1)) dn = ps := by
                    have h := hps
                    rw [Hcol.out] at h
                    exact h
                  have Hcol2 : Hid (col (dn ++ [(rn : Int)]) = ps.set rn pX) := Lib.hid (by
                    rw [Hcol.out]
                    show colS _ _ _ _ _ (dn ++ [_]) = _
                    rw [colS_snoc, hps', Int.toNat_natCast, List.getD_eq_getElem?_getD, hrow, Option.getD_some, ← paint_asks hmm1 hmm2, hwl, hpX])
                  have hgw : ∀ x ∈ givenS mm, x ∈ wl := fun x hx => by
                    rw [← hwl]
                    unfold asksL
                    rw [← given_filter hmm1 hmm2] at hx
                    exact List.mem_append_right _ (List.mem_filter.1 hx).1
                  have hpXb := paint_bound hgw (fun x hx => givenS_range hmm2 hx) hrl100 hpX
                  have Hbd2 : Hid (∀ y ∈ col (dn ++ [(rn : Int)]), -1 ≤ y ∧ y ≤ 1000) := Lib.hid (by rw [Hcol2.out]; exact bound_set hpsb ⟨by omega, hpXb.2⟩)
                  have hgS : g < W6.heap.size := by have := HSo.out.but.size; have := HBl.out.size; omega
                  have hgS9 : g < w9.heap.size := Nat.lt_of_lt_of_le hgS hz69
                  have Hq2 : Hid (∀ k, q2.ownBlock = some k → k ≠ g) := Lib.hid (fun k hk => by have := own_block_ge HO2.out k hk; omega)
                  have Hun2 : Hid (∀ y ∈ lf2, (col (dn ++ [(rn : Int)]))[y.toNat]? = some (-1)) := Lib.hid (fun y hy => by
                    have hyl : y ∈ lf := by rw [← hlf2d] at hy; exact List.mem_of_mem_eraseIdx hy
                    have hne := sel_ne (HSel2.out.cross (rn : Int) (by simp) y hy)
                    have h0 := (HLr.out y hyl).1
                    rw [Hcol2.out, List.getElem?_set_ne (by omega), ← hps]
                    exact Hun.out y hyl)
                  have HBS : Hid (B ≤ W6.heap.size) := Lib.hid (by omega)
                  have HGz := Lib.hid (HGb.out.below HB9l.out hgb10)
                  have HAsk := Lib.hid (Asks_any f j bA bc (.slice (some ⟨g, 0, none⟩) j cap) ps (mm : Int) (rn : Int) w9 (HBb.out.move HB9l.out.size (kept_of HB9l.out (Nat.le_refl _))) HS8a.own.ints (HWish.out ps Hpsl.out) Hmany.out)
                  rw [hwl] at HAsk
                  have Hwb : Hid (∀ y ∈ wl, -1 ≤ y ∧ y ≤ 1000) := Lib.hid (by rw [← hwl]; exact asks_bound hpsb (by omega) (by omega))
                  have Hwl0 : Hid (0 < wl.length) := Lib.hid (by rw [← hwl]; exact asks_pos f ps _)
                  have HS8b := Lib.hid HS8a
                  clear f0 f1 f2 f3 hps hps' hlf2d hrow hrow' hrc hri hro hrl hrl100 hwl hll hpX hpsb hgw hpXb HS8a hym hbl3 HBe HBl HLc HGl HSo HBb HGb
                  have f0 := HGz.out.cell 0
                  have f1 := HGz.out.cell 1
                  have f2 := HGz.out.cell 2
                  have f3 := HGz.out.cell 3
                  go_wp2_with fail
                  refine HAsk.out.mono ?_
                  rintro e W8 ⟨av, rfl, haw, hb8⟩
                  obtain ⟨ab, awc, rfl, habS, hab8, hawc, hawc63, _⟩ := own_some haw Hwl0.out
                  have HO28 := Lib.hid (HO2.out.below hb8 rfl)
                  have HS8 := Lib.hid (HS8b.out.below hb8)
                  have HW8 := Lib.hid haw
                  rw [Hll.out] at HW8 hawc ⊢
                  clear f0 f1 f2 f3 HAsk haw hb8 HGz HS8b HO2
                  generalize w9.heap.size = S9 at *
                  generalize W6.heap.size = S6 at *
                  go_upto_region 27 with fail
                  go_loopg [20] ll (fun gk iv wx => ∃ (k : Nat) (x : Int) (Wx : World), Wx = wx ∧ iv = .int .i64 (k : Int) ∧ k + gk = ll ∧ Hid (SortNow W9 wx B g cap j (ps.set rn x)) ∧ Hid (OwnInts wx S6 q2 lf2) ∧ Hid (OwnInts wx S9 (.slice (some ⟨ab, 0, none⟩) ll awc) wl) ∧ Hid ((x = -1 ∧ ∀ (i : Nat) (z : Int), i < k → wl[i]? = some z → freeB row acr (givenS mm) ps (rn : Int) z = false) ∨ (0 ≤ x ∧ wl.find? (freeB row acr (givenS mm) ps (rn : Int)) = some x)))
                  case atStart => exact ⟨0, -1, _, rfl, rfl, by omega, Lib.hid (by rw [set_same Hps1.out]; exact HS8.out), HO28, HW8, Lib.hid (.inl ⟨rfl, fun i z hi => absurd hi (Nat.not_lt_zero i)⟩)⟩
                  case round =>
                    clear HS8 HO28 HW8
                    obtain ⟨k, x, Wk, rfl, rfl, hk, HSk, HO2k, HWk, HF⟩ := hrel
                    have hxr : (ps.set rn x)[rn]? = some x := by rw [List.getElem?_set, if_pos rfl, if_pos (by rw [Hpsl.out]; exact hrn)]
                    have cr := HSk.out.cell hxr
                    clear hxr
                    have hk0 : (0 : Int) ≤ (k : Int) := Int.natCast_nonneg k
                    rcases gk with _ | nk
                    · have hkl : ¬ (k : Int) < (ll : Int) := by omega
                      have HX : Hid ((x = -1 ∧ pX = slotS row ps) ∨ (0 ≤ x ∧ x = pX)) := Lib.hid (by
                        rcases HF.out with ⟨h1, h2⟩ | ⟨h1, h2⟩
                        · exact .inl ⟨h1, by rw [← HpX.out]; unfold paintS; rw [find_no (fun i z hi hz => h2 i z (by have := Hll.out; omega) hz)]⟩
                        · exact .inr ⟨h1, by rw [← HpX.out]; unfold paintS; rw [h2]⟩)
                      clear HF HWk cr
                      go_upto_region 33 with fail
                      go_loopg [22] (rl + 2) (fun gk iv wx => ∃ (k : Nat) (x : Int) (Wx : World), Wx = wx ∧ iv = .int .i64 (16 + (k : Int)) ∧ k + gk = rl + 2 ∧ Hid (SortNow W9 wx B g cap j (ps.set rn x)) ∧ Hid (OwnInts wx S6 q2 lf2) ∧ Hid ((x = -1 ∧ k ≤ rl ∧ pX = slotS row ps ∧ ∀ i : Nat, i < k → takenB row ps (16 + (i : Int)) = true) ∨ (0 ≤ x ∧ x = pX ∧ k ≤ rl + 1)))
                      case atStart =>
                        refine ⟨0, x, _, rfl, by simp, by omega, HSk, HO2k, Lib.hid ?_⟩
                        rcases HX.out with ⟨h1, h2⟩ | ⟨h1, h2⟩
                        · exact .inl ⟨h1, Nat.zero_le _, h2, fun i hi => absurd hi (Nat.not_lt_zero i)⟩
                        · exact .inr ⟨h1, h2, Nat.zero_le _⟩
                      case round =>
                        clear HX HSk HO2k
                        obtain ⟨k, x, Wq, rfl, rfl, hk, HSq, HO2q, HXq⟩ := hrel
                        have hxr : (ps.set rn x)[rn]? = some x := by rw [List.getElem?_set, if_pos rfl, if_pos (by rw [Hpsl.out]; exact hrn)]
                        have cr := HSq.out.cell hxr
                        clear hxr
                        rcases HXq.out with ⟨rfl, hkl, hpx, htk⟩ | ⟨hx0, hxp, hkl⟩
                        · rcases gk with _ | nk
                          · omega
                          have HTk := Lib.hid htk
                          have Hpx := Lib.hid hpx
                          have HSq' : Hid (SortNow W9 Wq B g cap j ps) := Lib.hid (by have := HSq.out; rwa [set_same Hps1.out] at this)
                          have rc := (HSq.out.but.cell Hvb.out.1 Hvb.out.2).trans Hrc.out
                          have HTa := Lib.hid (RTaken_any rv (.slice (some ⟨g, 0, none⟩) j cap) row ps (16 + (k : Int)) Wq (Hri.out.move (Nat.le_trans HBs.out HSq.out.but.size) (HSq.out.but.kept HBs.out hgB)) (by
                            have := HSq'.out.own.ints
                            exact this) (by rw [Hpsl.out]; exact Hro.out))
                          obtain ⟨tb, htb⟩ : ∃ tb, takenB row ps (16 + (k : Int)) = tb := ⟨_, rfl⟩
                          rw [htb] at HTa
                          have Htb := Lib.hid htb
                          clear HXq htk hpx htb
                          have hk0 : (0 : Int) ≤ 16 + (k : Int) := by omega
                          go_wp2_with fail
                          refine HTa.out.mono ?_
                          rintro e w' ⟨rfl, rfl⟩
                          cases tb with
                          | true =>
                            have hst : ∀ i : Nat, i < k + 1 → takenB row ps (16 + (i : Int)) = true := fun i hi => by
                              rcases Nat.lt_or_ge i k with h | h
                              · exact HTk.out i h
                              · obtain rfl : i = k := by omega
                                exact Htb.out
                            have hfew := taken_few hst
                            rw [Hrl.out] at hfew
                            have Hst := Lib.hid hst
                            clear hst HTa
                            go_wp2_with fail
                            go_roundg nk
                            case measure => omega
                            case rel => exact ⟨k + 1, -1, _, rfl, by go_num, by omega, HSq, HO2q, Lib.hid (.inl ⟨rfl, hfew, Hpx.out, Hst.out⟩)⟩
                          | false =>
                            have hfz := HSq.out.frozen rn
                            have HSw : Hid (SortNow W9 (Wq.setCell ⟨g, rn, none⟩ (.int .i64 (16 + (k : Int)))) B g cap j (ps.set rn (16 + (k : Int)))) := Lib.hid (by
                              have := HSq.out.put rn (16 + (k : Int))
                              rwa [List.set_set] at this)
                            have HOw := Lib.hid (HO2q.out.set (o := rn) hgS (.int .i64 (16 + (k : Int))))
                            have HXw : Hid ((16 + (k : Int) = -1 ∧ k + 1 ≤ rl ∧ pX = slotS row ps ∧ ∀ i : Nat, i < k + 1 → takenB row ps (16 + (i : Int)) = true) ∨ (0 ≤ 16 + (k : Int) ∧ 16 + (k : Int) = pX ∧ k + 1 ≤ rl + 1)) := Lib.hid (.inr ⟨hk0, by rw [Hpx.out, slot_eq HTk.out Htb.out], by omega⟩)
                            clear HTa
                            go_wp2_with fail
                            go_roundg nk
                            case measure => omega
                            case rel => exact ⟨k + 1, 16 + (k : Int), _, rfl, by go_num, by omega, HSw, HOw, HXw⟩
                        · have hxn : ¬ x < 0 := by omega
                          have HSz : Hid (SortNow W9 Wq B g cap j (col (dn ++ [(rn : Int)]))) := Lib.hid (by rw [Hcol2.out, ← hxp]; exact HSq.out)
                          have HOz : Hid (OwnInts Wq B q2 lf2) := Lib.hid (own_more HO2q.out HBS.out)
                          clear HXq hxp
                          go_wp2_with fail
                          go_roundg mk
                          case measure => omega
                          case rel => exact ⟨q2, dn ++ [(rn : Int)], lf2, _, rfl, rfl, hlf2, HSel2, HSz, HOz, Hq2, Hbd2, Hun2⟩
                    · have hkl : (k : Int) < (ll : Int) := by omega
                      rcases HF.out with ⟨rfl, hnf⟩ | ⟨hx0, hfd⟩
                      · obtain ⟨p, hp⟩ : ∃ p, wl[k]? = some p := ⟨wl[k]'(by have := Hll.out; omega), List.getElem?_eq_getElem _⟩
                        have hpb := Hwb.out p (List.mem_of_getElem? hp)
                        have cp : Wk.cell? ⟨ab, k, none⟩ = some (.int .i64 p) := by
                          obtain ⟨g', c', e', _, _, _, _, hc⟩ := own_some HWk.out (by have := Hll.out; omega)
                          cases e'
                          exact hc k p hp
                        have Hnf := Lib.hid hnf
                        have Hp := Lib.hid hp
                        have HS' : Hid (SortNow W9 Wk B g cap j ps) := Lib.hid (by have := HSk.out; rwa [set_same Hps1.out] at this)
                        have rc := (HSk.out.but.cell Hvb.out.1 Hvb.out.2).trans Hrc.out
                        have HGi := Lib.hid (RGiven_any mm p Wk hmm1 hmm2 (i64_small (by omega)))
                        have HTa := Lib.hid (RTaken_any rv (.slice (some ⟨g, 0, none⟩) j cap) row ps p Wk (Hri.out.move (Nat.le_trans HBs.out HSk.out.but.size) (HSk.out.but.kept HBs.out hgB)) (by
                          have := HS'.out.own.ints
                          exact this) (by rw [Hpsl.out]; exact Hro.out))
                        have HWi := Lib.hid (RWithin_any _ acr (rn : Int) B Wk (HA9.out.move (Nat.le_refl B) (HSk.out.but.kept HBs.out hgB)))
                        obtain ⟨gb, hgb⟩ : ∃ gb, hasN (givenS mm) p = gb := ⟨_, rfl⟩
                        obtain ⟨tb, htb⟩ : ∃ tb, takenB row ps p = tb := ⟨_, rfl⟩
                        obtain ⟨wb, hwb⟩ : ∃ wb, hasN acr (rn : Int) = wb := ⟨_, rfl⟩
                        have HFr : Hid (freeB row acr (givenS mm) ps (rn : Int) p = (gb && ((decide (6 ≤ p) || !wb) && !tb))) := Lib.hid (by unfold freeB; rw [hgb, htb, hwb])
                        rw [hgb] at HGi
                        rw [htb] at HTa
                        rw [hwb] at HWi
                        have Hgp : Hid (gb = true → 0 ≤ p) := Lib.hid (fun e => by
                          rw [e] at hgb
                          exact (givenS_range hmm2 (hasN_iff.1 hgb)).1)
                        obtain ⟨fv, hfv⟩ : ∃ fv, freeB row acr (givenS mm) ps (rn : Int) p = fv := ⟨_, rfl⟩
                        rw [hfv] at HFr
                        have Hfv := Lib.hid hfv
                        clear HF hnf hp hgb htb hwb hfv
                        go_upto_region 30 with fail
                        go_cut [157] from 135 to 157 (fun s wx => s = .bool fv ∧ Wk = wx)
                        case first =>
                          go_wp2_with fail
                          refine HGi.out.mono ?_
                          rintro e w' ⟨rfl, rfl⟩
                          cases gb with
                          | false =>
                            go_wp2_with fail
                            go_meet
                            exact ⟨by rw [HFr.out]; rfl, rfl⟩
                          | true =>
                            go_wp2_with fail
                            refine HTa.out.mono ?_
                            rintro e w' ⟨rfl, rfl⟩
                            cases tb with
                            | true =>
                              go_wp2_with fail
                              go_meet
                              exact ⟨by rw [HFr.out]; simp, rfl⟩
                            | false =>
                              by_cases h6 : 6 ≤ p
                              · have h6' : p ≥ 6 := h6
                                go_wp2_with fail
                                go_meet
                                exact ⟨by rw [HFr.out]; simp [h6], rfl⟩
                              · have h6' : ¬ p ≥ 6 := h6
                                go_wp2_with fail
                                refine HWi.out.mono ?_
                                rintro e w' ⟨rfl, rfl⟩
                                go_wp2_with fail
                                go_meet
                                exact ⟨by rw [HFr.out]; simp, rfl⟩
                        case rest =>
                          obtain ⟨rfl, rfl⟩ := hcut
                          cases fv with
                          | false =>
                            have hfb := Hfv.out
                            have HN : Hid (∀ (i : Nat) (z : Int), i < k + 1 → wl[i]? = some z → freeB row acr (givenS mm) ps (rn : Int) z = false) := Lib.hid (fun i z hi hz => by
                              rcases Nat.lt_or_ge i k with h | h
                              · exact Hnf.out i z h hz
                              · obtain rfl : i = k := by omega
                                rw [Hp.out] at hz
                                cases hz
                                exact hfb)
                            clear HGi HTa HWi HFr hfb rc
                            go_wp2_with fail
                            go_roundg nk
                            case measure => omega
                            case rel => exact ⟨k + 1, -1, _, rfl, by go_num, by omega, HSk, HO2k, HWk, Lib.hid (.inl ⟨rfl, HN.out⟩)⟩
                          | true =>
                            have hfb := Hfv.out
                            have hp0 : 0 ≤ p := Hgp.out (by
                              have := HFr.out
                              cases gb with
                              | true => rfl
                              | false => simp at this)
                            have hfz := HSk.out.frozen rn
                            have HSw : Hid (SortNow W9 (Wk.setCell ⟨g, rn, none⟩ (.int .i64 p)) B g cap j (ps.set rn p)) := Lib.hid (by
                              have := HSk.out.put rn p
                              rwa [List.set_set] at this)
                            have HOw := Lib.hid (HO2k.out.set (o := rn) hgS (.int .i64 p))
                            have HWw := Lib.hid (HWk.out.set (o := rn) hgS9 (.int .i64 p))
                            have HFw : Hid (wl.find? (freeB row acr (givenS mm) ps (rn : Int)) = some p) := Lib.hid (find_first Hp.out hfb Hnf.out)
                            clear HGi HTa HWi HFr hfb rc
                            go_wp2_with fail
                            go_roundg nk
                            case measure => omega
                            case rel => exact ⟨k + 1, p, _, rfl, by go_num, by omega, HSw, HOw, HWw, Lib.hid (.inr ⟨hp0, HFw.out⟩)⟩
                      · have hxn : ¬ x < 0 := by omega
                        have HX : Hid ((x = -1 ∧ pX = slotS row ps) ∨ (0 ≤ x ∧ x = pX)) := Lib.hid (.inr ⟨hx0, by rw [← HpX.out]; unfold paintS; rw [hfd]⟩)
                        clear HF HWk hfd
                        go_upto_region 33 with fail
                        go_loopg [22] (rl + 2) (fun gk iv wx => ∃ (k : Nat) (x : Int) (Wx : World), Wx = wx ∧ iv = .int .i64 (16 + (k : Int)) ∧ k + gk = rl + 2 ∧ Hid (SortNow W9 wx B g cap j (ps.set rn x)) ∧ Hid (OwnInts wx S6 q2 lf2) ∧ Hid ((x = -1 ∧ k ≤ rl ∧ pX = slotS row ps ∧ ∀ i : Nat, i < k → takenB row ps (16 + (i : Int)) = true) ∨ (0 ≤ x ∧ x = pX ∧ k ≤ rl + 1)))
                        case atStart =>
                          refine ⟨0, x, _, rfl, by simp, by omega, HSk, HO2k, Lib.hid ?_⟩
                          rcases HX.out with ⟨h1, h2⟩ | ⟨h1, h2⟩
                          · exact .inl ⟨h1, Nat.zero_le _, h2, fun i hi => absurd hi (Nat.not_lt_zero i)⟩
                          · exact .inr ⟨h1, h2, Nat.zero_le _⟩
                        case round =>
                          clear HX HSk HO2k
                          obtain ⟨k, x, Wq, rfl, rfl, hk, HSq, HO2q, HXq⟩ := hrel
                          have hxr : (ps.set rn x)[rn]? = some x := by rw [List.getElem?_set, if_pos rfl, if_pos (by rw [Hpsl.out]; exact hrn)]
                          have cr := HSq.out.cell hxr
                          clear hxr
                          rcases HXq.out with ⟨rfl, hkl, hpx, htk⟩ | ⟨hx0, hxp, hkl⟩
                          · rcases gk with _ | nk
                            · omega
                            have HTk := Lib.hid htk
                            have Hpx := Lib.hid hpx
                            have HSq' : Hid (SortNow W9 Wq B g cap j ps) := Lib.hid (by have := HSq.out; rwa [set_same Hps1.out] at this)
                            have rc := (HSq.out.but.cell Hvb.out.1 Hvb.out.2).trans Hrc.out
                            have HTa := Lib.hid (RTaken_any rv (.slice (some ⟨g, 0, none⟩) j cap) row ps (16 + (k : Int)) Wq (Hri.out.move (Nat.le_trans HBs.out HSq.out.but.size) (HSq.out.but.kept HBs.out hgB)) (by
                              have := HSq'.out.own.ints
                              exact this) (by rw [Hpsl.out]; exact Hro.out))
                            obtain ⟨tb, htb⟩ : ∃ tb, takenB row ps (16 + (k : Int)) = tb := ⟨_, rfl⟩
                            rw [htb] at HTa
                            have Htb := Lib.hid htb
                            clear HXq htk hpx htb
                            have hk0 : (0 : Int) ≤ 16 + (k : Int) := by omega
                            go_wp2_with fail
                            refine HTa.out.mono ?_
                            rintro e w' ⟨rfl, rfl⟩
                            cases tb with
                            | true =>
                              have hst : ∀ i : Nat, i < k + 1 → takenB row ps (16 + (i : Int)) = true := fun i hi => by
                                rcases Nat.lt_or_ge i k with h | h
                                · exact HTk.out i h
                                · obtain rfl : i = k := by omega
                                  exact Htb.out
                              have hfew := taken_few hst
                              rw [Hrl.out] at hfew
                              have Hst := Lib.hid hst
                              clear hst HTa
                              go_wp2_with fail
                              go_roundg nk
                              case measure => omega
                              case rel => exact ⟨k + 1, -1, _, rfl, by go_num, by omega, HSq, HO2q, Lib.hid (.inl ⟨rfl, hfew, Hpx.out, Hst.out⟩)⟩
                            | false =>
                              have hfz := HSq.out.frozen rn
                              have HSw : Hid (SortNow W9 (Wq.setCell ⟨g, rn, none⟩ (.int .i64 (16 + (k : Int)))) B g cap j (ps.set rn (16 + (k : Int)))) := Lib.hid (by
                                have := HSq.out.put rn (16 + (k : Int))
                                rwa [List.set_set] at this)
                              have HOw := Lib.hid (HO2q.out.set (o := rn) hgS (.int .i64 (16 + (k : Int))))
                              have HXw : Hid ((16 + (k : Int) = -1 ∧ k + 1 ≤ rl ∧ pX = slotS row ps ∧ ∀ i : Nat, i < k + 1 → takenB row ps (16 + (i : Int)) = true) ∨ (0 ≤ 16 + (k : Int) ∧ 16 + (k : Int) = pX ∧ k + 1 ≤ rl + 1)) := Lib.hid (.inr ⟨hk0, by rw [Hpx.out, slot_eq HTk.out Htb.out], by omega⟩)
                              clear HTa
                              go_wp2_with fail
                              go_roundg nk
                              case measure => omega
                              case rel => exact ⟨k + 1, 16 + (k : Int), _, rfl, by go_num, by omega, HSw, HOw, HXw⟩
                          · have hxn : ¬ x < 0 := by omega
                            have HSz : Hid (SortNow W9 Wq B g cap j (col (dn ++ [(rn : Int)]))) := Lib.hid (by rw [Hcol2.out, ← hxp]; exact HSq.out)
                            have HOz : Hid (OwnInts Wq B q2 lf2) := Lib.hid (own_more HO2q.out HBS.out)
                            clear HXq hxp
                            go_wp2_with fail
                            go_roundg mk
                            case measure => omega
                            case rel => exact ⟨q2, dn ++ [(rn : Int)], lf2, _, rfl, rfl, hlf2, HSel2, HSz, HOz, Hq2, Hbd2, Hun2⟩
                · obtain ⟨x, hx⟩ : ∃ x, lf[i3]? = some x := ⟨lf[i3]'(by have := Hlf.out; omega), List.getElem?_eq_getElem _⟩
                  have Hx := Lib.hid hx
                  have cx := HLc.out i3 x hx
                  have hxr := HLr.out x (List.mem_of_getElem? hx)
                  have hx0 := hxr.1
                  have hil : (i3 : Int) < (len : Int) := by omega
                  have hi0 : (0 : Int) ≤ (i3 : Int) := Int.natCast_nonneg i3
                  have HWt : Hid (∀ W, Below Wl.heap.size Wl W → ∀ x : Int, 0 ≤ x → Calls Tryz.prog 21 #[.agg #[.string f.name, .int .i64 f.params, .int .i64 (j : Int), .slice bA f.blocks.length bc], .int .i64 x] W fun e w' => e = .returned (.int .i64 (cnt (occBs f.blocks) x)) ∧ Below W.heap.size W w') := Lib.hid (fun W hW x hx => WeightOf_any f.name f.params (j : Int) bA f.blocks.length bc f.blocks x W (HBb.out.move (Nat.le_trans HBl.out.size hW.size) (kept_of (HBl.out.trans (hW.mono HBl.out.size)) (Nat.le_refl _))) hx Hfew.out)
                  clear hx
                  go_upto_region 21 with fail
                  obtain ⟨pw, hp0, hp1, hp2, hp3, hp4, hp5, hp6, hp7, hp8, hp9, hp10, hp11, hp12⟩ : ∃ pw : Nat → Option Value, pw 0 = some (.agg #[.string f.name, .int .i64 f.params, .int .i64 (j : Int), .slice bA f.blocks.length bc]) ∧ pw 1 = some (.slice (some ⟨lb, 0, none⟩) len lc) ∧ pw 2 = some (.int .i64 (i3 : Int)) ∧ pw 3 = some (.pointer (some ⟨lb, i3, none⟩)) ∧ pw 4 = some (.int .i64 x) ∧ pw 5 = some (.int .i64 (cnt (occBs f.blocks) x)) ∧ pw 6 = some (.agg #[.string f.name, .int .i64 f.params, .int .i64 (j : Int), .slice bA f.blocks.length bc]) ∧ pw 7 = some (.slice (some ⟨lb, 0, none⟩) len lc) ∧ pw 8 = some (.int .i64 (b3 : Int)) ∧ pw 9 = some (.pointer (some ⟨lb, b3, none⟩)) ∧ pw 10 = some (.int .i64 y) ∧ pw 11 = some (.int .i64 (cnt (occBs f.blocks) y)) ∧ pw 12 = some (.bool (decide (cnt (occBs f.blocks) x > cnt (occBs f.blocks) y))) :=
                    ⟨fun k => ([some (.agg #[.string f.name, .int .i64 f.params, .int .i64 (j : Int), .slice bA f.blocks.length bc]), some (.slice (some ⟨lb, 0, none⟩) len lc), some (.int .i64 (i3 : Int)), some (.pointer (some ⟨lb, i3, none⟩)), some (.int .i64 x), some (.int .i64 (cnt (occBs f.blocks) x)), some (.agg #[.string f.name, .int .i64 f.params, .int .i64 (j : Int), .slice bA f.blocks.length bc]), some (.slice (some ⟨lb, 0, none⟩) len lc), some (.int .i64 (b3 : Int)), some (.pointer (some ⟨lb, b3, none⟩)), some (.int .i64 y), some (.int .i64 (cnt (occBs f.blocks) y)), some (.bool (decide (cnt (occBs f.blocks) x > cnt (occBs f.blocks) y)))] : List (Option Value)).getD k none, rfl, rfl, rfl, rfl, rfl, rfl, rfl, rfl, rfl, rfl, rfl, rfl, rfl⟩
                  have P0 := Lib.hid hp0
                  have P1 := Lib.hid hp1
                  have P2 := Lib.hid hp2
                  have P3 := Lib.hid hp3
                  have P4 := Lib.hid hp4
                  have P5 := Lib.hid hp5
                  have P6 := Lib.hid hp6
                  have P7 := Lib.hid hp7
                  have P8 := Lib.hid hp8
                  have P9 := Lib.hid hp9
                  have P10 := Lib.hid hp10
                  have P11 := Lib.hid hp11
                  have P12 := Lib.hid hp12
                  clear hp0 hp1 hp2 hp3 hp4 hp5 hp6 hp7 hp8 hp9 hp10 hp11 hp12
                  have HS0 : Hid (KnownRun pw Wl (fun _ => none) { Wl with drawn := Wl.drawn + 1 }) := Lib.hid (KnownRun.start (below_drew (Below.refl _ _)))
                  refine wp_region_keeps (KnownRun pw Wl) (by kernel_rfl) (by kernel_rfl) HS0.out ?_ ?_
                  · refine ⟨⟨rfl, ?_⟩, ⟨rfl, ?_⟩, ⟨rfl, ?_⟩, ⟨rfl, ?_⟩, ⟨rfl, ?_⟩, ⟨rfl, ?_⟩, ⟨rfl, ?_⟩, ⟨rfl, ?_⟩, ⟨rfl, ?_⟩, ⟨rfl, ?_⟩, ⟨rfl, ?_⟩, ⟨rfl, ?_⟩, ⟨rfl, ?_⟩, trivial⟩
                    all_goals
                      intro σ vs w' hvs hcl' hC hk hdep
                      simp only [putO, Act.put, List.setIfInBounds_toArray, List.set_cons_succ, List.set_cons_zero, Nat.reduceAdd]
                      have HC := Lib.hid hC
                      have HD := Lib.hid hdep
                      have HL := Lib.hid hcl'
                      have HS := Lib.hid hk
                      clear hC hdep hcl' hk hvs
                    · have f0 := (bcell HC.out.low hg10l).trans f0
                      have f1 := (bcell HC.out.low hg10l).trans f1
                      have f2 := (bcell HC.out.low hg10l).trans f2
                      have f3 := (bcell HC.out.low hg10l).trans f3
                      go_simp
                      exact HC.out.say P0.out (Below.refl _ _)
                    · go_simp
                      exact HC.out.say P1.out (Below.refl _ _)
                    · go_simp
                      exact HC.out.say P2.out (Below.refl _ _)
                    · rw [HC.out.val (HD.out ⟨1, .data⟩ (by simp) rfl) P1.out, HC.out.val (HD.out ⟨2, .data⟩ (by simp) rfl) P2.out]
                      go_simp
                      exact HC.out.say P3.out (Below.refl _ _)
                    · rw [HC.out.val (HD.out ⟨3, .data⟩ (by simp) rfl) P3.out]
                      have cx := (bcell HC.out.low hlbl).trans cx
                      go_simp
                      exact HC.out.say P4.out (Below.refl _ _)
                    · rw [HC.out.val (HD.out ⟨0, .data⟩ (by simp) rfl) P0.out, HC.out.val (HD.out ⟨4, .data⟩ (by simp) rfl) P4.out]
                      have HWc := Lib.hid (HWt.out w' HC.out.low x hx0)
                      go_simp
                      refine HWc.out.mono ?_
                      rintro e w2 ⟨rfl, hb⟩
                      exact ⟨_, rfl, HC.out.say P5.out hb⟩
                    · have f0 := (bcell HC.out.low hg10l).trans f0
                      have f1 := (bcell HC.out.low hg10l).trans f1
                      have f2 := (bcell HC.out.low hg10l).trans f2
                      have f3 := (bcell HC.out.low hg10l).trans f3
                      go_simp
                      exact HC.out.say P6.out (Below.refl _ _)
                    · go_simp
                      exact HC.out.say P7.out (Below.refl _ _)
                    · go_simp
                      exact HC.out.say P8.out (Below.refl _ _)
                    · rw [HC.out.val (HD.out ⟨7, .data⟩ (by simp) rfl) P7.out, HC.out.val (HD.out ⟨8, .data⟩ (by simp) rfl) P8.out]
                      go_simp
                      exact HC.out.say P9.out (Below.refl _ _)
                    · rw [HC.out.val (HD.out ⟨9, .data⟩ (by simp) rfl) P9.out]
                      have cy := (bcell HC.out.low hlbl).trans cy
                      go_simp
                      exact HC.out.say P10.out (Below.refl _ _)
                    · rw [HC.out.val (HD.out ⟨6, .data⟩ (by simp) rfl) P6.out, HC.out.val (HD.out ⟨10, .data⟩ (by simp) rfl) P10.out]
                      have HWc := Lib.hid (HWt.out w' HC.out.low y hy0)
                      go_simp
                      refine HWc.out.mono ?_
                      rintro e w2 ⟨rfl, hb⟩
                      exact ⟨_, rfl, HC.out.say P11.out hb⟩
                    · rw [HC.out.val (HD.out ⟨5, .data⟩ (by simp) rfl) P5.out, HC.out.val (HD.out ⟨11, .data⟩ (by simp) rfl) P11.out]
                      go_simp
                      exact HC.out.say P12.out (Below.refl _ _)
                  intro σ vs w9 hC hall
                  have e12 := hC.val (hall 12 (by decide)) P12.out
                  have hb9 := hC.low
                  simp only [putO, Act.put, List.setIfInBounds_toArray, List.set_cons_succ, List.set_cons_zero, Nat.reduceAdd]
                  rw [e12]
                  have HB9l := Lib.hid (HBl.out.trans (hb9.mono HBl.out.size))
                  generalize vs 0 = s'0 at *
                  generalize vs 1 = s'1 at *
                  generalize vs 2 = s'2 at *
                  generalize vs 3 = s'3 at *
                  generalize vs 4 = s'4 at *
                  generalize vs 5 = s'5 at *
                  generalize vs 6 = s'6 at *
                  generalize vs 7 = s'7 at *
                  generalize vs 8 = s'8 at *
                  generalize vs 9 = s'9 at *
                  generalize vs 10 = s'10 at *
                  generalize vs 11 = s'11 at *
                  clear hC hall e12 HS0 hb9 P0 P1 P2 P3 P4 P5 P6 P7 P8 P9 P10 P11 P12
                  clear f0 f1 f2 f3 cx cy
                  by_cases hlt : cnt (occBs f.blocks) x > cnt (occBs f.blocks) y
                  · have HBe2 : Hid (BestAt (fun x => ws.getD x.toNat 0) lf (i3 + 1) i3) := Lib.hid (HBe.out.take Hx.out Hy.out (by
                      obtain ⟨xn, rfl⟩ : ∃ xn : Nat, x = (xn : Int) := ⟨x.toNat, by omega⟩
                      obtain ⟨yn, rfl⟩ : ∃ yn : Nat, y = (yn : Int) := ⟨y.toNat, by omega⟩
                      show ws.getD (yn : Int).toNat 0 < ws.getD (xn : Int).toNat 0
                      rw [Hwt.out xn (by omega), Hwt.out yn (by omega)]
                      exact hlt))
                    rw [decide_eq_true hlt]
                    clear hlt
                    go_wp2_with fail
                    go_roundg nk
                    case measure => omega
                    case rel => exact ⟨i3, i3 + 1, _, rfl, rfl, by go_num, by omega, by omega, HBe2, HB9l⟩
                  · have HBe2 : Hid (BestAt (fun x => ws.getD x.toNat 0) lf (i3 + 1) b3) := Lib.hid (HBe.out.keep Hx.out Hy.out (by
                      obtain ⟨xn, rfl⟩ : ∃ xn : Nat, x = (xn : Int) := ⟨x.toNat, by omega⟩
                      obtain ⟨yn, rfl⟩ : ∃ yn : Nat, y = (yn : Int) := ⟨y.toNat, by omega⟩
                      show ¬ ws.getD (yn : Int).toNat 0 < ws.getD (xn : Int).toNat 0
                      rw [Hwt.out xn (by omega), Hwt.out yn (by omega)]
                      exact hlt))
                    rw [decide_eq_false hlt]
                    clear hlt
                    go_wp2_with fail
                    go_roundg nk
                    case measure => omega
                    case rel => exact ⟨b3, i3 + 1, _, rfl, rfl, by go_num, by omega, by omega, HBe2, HB9l⟩
        · have hjt : (j : Int) < (nr : Int) := by omega
          have hj0 : (0 : Int) ≤ (j : Int) := Int.natCast_nonneg j
          have hjn : j < nr := by omega
          have hl1 : (List.replicate j (-1 : Int)).length ≤ 1000 := by rw [List.length_replicate]; omega
          have hl2 : (presentL ws (listS nr (inU f.blocks 0)) j).length ≤ 1000 := by have := presentL_len ws (listS nr (inU f.blocks 0)) j; omega
          have HT1 : ∀ v4 w4, Hid (Appended wr B 3 1 p ((List.replicate j (-1 : Int)).length + 1) ((List.replicate j (-1 : Int)).map (Value.int .i64) ++ [.int .i64 (-1)]) (wr.heap.size + 1) v4 w4) → Hid (Two w4 B v4 q (List.replicate (j + 1) (-1)) (presentL ws (listS nr (inU f.blocks 0)) j)) := fun v4 w4 HA => Lib.hid (by
            rw [List.replicate_succ']
            exact HT.out.app1 HA.out)
          generalize List.replicate j (-1 : Int) = R1 at *
          go_upto_region 14 with (at_builtin; refine app_one rfl _ _ 26 3 rfl (.int .i64 0) 1 8 Tryz.underlying26 infoInt rfl (by decide) (by decide) B _ _ _ (by rfl) HT.out.fst _ [.int .i64 (-1)] (by rfl) rfl (fun x hx => by simp at hx; subst hx; rfl) rfl (by omega) hzB ?_; intro v4 w4 HA4)
          have HTj := HT1 v4 w4 HA4
          have HBj := Lib.hid (HB.out.trans HA4.out.below)
          clear HA4 HT1 HT HB HGj g2
          have HGj := Lib.hid (HG5.out.below HBj.out Hg10.out)
          have f0 := HGj.out.cell 0
          have f1 := HGj.out.cell 1
          have f2 := HGj.out.cell 2
          have f3 := HGj.out.cell 3
          have hz4 : B ≤ w4.heap.size := by have := HBj.out.size; have := HBd.out; omega
          obtain ⟨q0, hq0⟩ : ∃ q0, cnt (occBs f.blocks) (j : Int) = q0 := ⟨_, rfl⟩
          obtain ⟨il, hil⟩ : ∃ il, inU f.blocks 0 (j : Int) = il := ⟨_, rfl⟩
          have hpj := Hpr.out j hjn
          rw [hq0, hil] at hpj
          have HPj : Hid (presentL ws (listS nr (inU f.blocks 0)) (j + 1) = presentL ws (listS nr (inU f.blocks 0)) j ++ if (decide (q0 ≠ 0) || il) = true then [(j : Int)] else []) := Lib.hid (by rw [presentL_succ, hpj])
          have HWo := Lib.hid (WeightOf_any f.name f.params (nr : Int) bA f.blocks.length bc f.blocks (j : Int) w4 (HBs5.out.move hz4 (kept_of HBj.out (Nat.le_refl _))) hj0 Hfew.out)
          rw [hq0] at HWo
          have hq00 : 0 ≤ q0 := by rw [← hq0]; unfold cnt; omega
          have Hil := Lib.hid hil
          obtain ⟨R2, hR2⟩ : ∃ R2, List.replicate (j + 1) (-1 : Int) = R2 := ⟨_, rfl⟩
          have HR2 := Lib.hid hR2
          rw [hR2] at HTj
          clear hR2
          clear hq0 hil hpj hl1
          go_wp2_with fail
          refine HWo.out.mono ?_
          rintro e w5 ⟨rfl, hb5⟩
          have HT5 := Lib.hid (HTj.out.below hb5)
          have HB5j := Lib.hid (HBj.out.trans (hb5.mono hz4))
          have hz5 : B ≤ w5.heap.size := Nat.le_trans hz4 hb5.size
          have HGj5 := Lib.hid (HG5.out.below HB5j.out Hg10.out)
          clear f0 f1 f2 f3 HGj HWo HTj HBj hb5
          have f0 := HGj5.out.cell 0
          have f1 := HGj5.out.cell 1
          have f2 := HGj5.out.cell 2
          have f3 := HGj5.out.cell 3
          by_cases hq : q0 > 0
          · have HY : Hid ((decide (q0 ≠ 0) || il) = true) := Lib.hid (by rw [decide_eq_true (by omega)]; rfl)
            have HL : Hid (R2.length = R2.length) := Lib.hid rfl
            go_wp2_with (at_builtin; refine app_one rfl _ _ 26 3 rfl (.int .i64 0) 1 8 Tryz.underlying26 infoInt rfl (by decide) (by decide) B _ _ _ (by rfl) HT5.out.snd _ [.int .i64 (j : Int)] (by rfl) rfl (fun x hx => by simp at hx; subst hx; rfl) rfl (by omega) hz5 ?_; intro v7 w7 HA7)
            have HT7 : Hid (Two w7 B v4 v7 R2 (presentL ws (listS nr (inU f.blocks 0)) (j + 1))) := Lib.hid (by
              rw [HPj.out, if_pos HY.out]
              exact HT5.out.app2 HA7.out)
            have HB7 := Lib.hid (HB5j.out.trans HA7.out.below)
            go_roundg mk
            case measure => omega
            case rel => exact ⟨j + 1, _, _, rfl, rfl, by omega, by go_num, Lib.hid (by rw [HR2.out]; exact HT7.out), HB7⟩
          · obtain rfl : q0 = 0 := by omega
            have HLh := Lib.hid (LiveHead_any f.name f.params (nr : Int) bA bc f.blocks (j : Int) il w5 Hil.out (HBs5.out.move hz5 (kept_of HB5j.out (Nat.le_refl _))) Hfl.out.1 Hfl.out.2.1 Hfl.out.2.2)
            go_wp2_with fail
            refine HLh.out.mono ?_
            rintro e w6 ⟨b0, n0, cc0, b1, n1, cc1, rfl, ⟨hn0, hn1⟩, k0, k1, ⟨hn2, hn3⟩, hb6⟩
            have HT6 := Lib.hid (HT5.out.below hb6)
            have HB6 := Lib.hid (HB5j.out.trans (hb6.mono hz5))
            have hz6 : B ≤ w6.heap.size := Nat.le_trans hz5 hb6.size
            have hni0 : (0 : Int) < (n0 : Int) := by omega
            have hni1 : (0 : Int) < (n1 : Int) := by omega
            clear f0 f1 f2 f3 HGj5 HLh HT5 HB5j hb6
            cases il with
            | true =>
              have HY : Hid ((decide ((0 : Int) ≠ 0) || true) = true) := Lib.hid rfl
              go_wp2_with (at_builtin; refine app_one rfl _ _ 26 3 rfl (.int .i64 0) 1 8 Tryz.underlying26 infoInt rfl (by decide) (by decide) B _ _ _ (by rfl) HT6.out.snd _ [.int .i64 (j : Int)] (by rfl) rfl (fun x hx => by simp at hx; subst hx; rfl) rfl (by omega) hz6 ?_; intro v7 w7 HA7)
              have HT7 : Hid (Two w7 B v4 v7 R2 (presentL ws (listS nr (inU f.blocks 0)) (j + 1))) := Lib.hid (by
                rw [HPj.out, if_pos HY.out]
                exact HT6.out.app2 HA7.out)
              have HB7 := Lib.hid (HB6.out.trans HA7.out.below)
              go_roundg mk
              case measure => omega
              case rel => exact ⟨j + 1, _, _, rfl, rfl, by omega, by go_num, Lib.hid (by rw [HR2.out]; exact HT7.out), HB7⟩
            | false =>
              have HT7 : Hid (Two w6 B v4 q R2 (presentL ws (listS nr (inU f.blocks 0)) (j + 1))) := Lib.hid (by
                rw [HPj.out, if_neg (by simp), List.append_nil]
                exact HT6.out)
              go_wp2_with fail
              go_roundg mk
              case measure => omega
              case rel => exact ⟨j + 1, _, _, rfl, rfl, by omega, by go_num, Lib.hid (by rw [HR2.out]; exact HT7.out), HB6⟩
    · have HE : Hid (colF gs fs (n : Int) m = (3, -1)) := Lib.hid (by unfold colF; rw [if_neg (by rw [Hun.out]; simp), if_pos hm2])
      clear hcz hf hk0 hk1 hph hho hbo hunf
      by_cases hml : m < 2
      · clear hm2
        go_wp2_with fail
        all_goals
          refine end_tmp_cell rfl rfl (HX2.out.set2 (.int .i64 3) (.int .i64 (-1))) Tryz.underlying28 rfl (by kernel_rfl) rfl (HP.out _ _ ⟨_, [], by rw [HE.out]; rfl, OwnInts.nil _ _, ?_, fun _ => rfl, fun h => by rw [HE.out] at h; cases h⟩)
          exact ((HB2.out.setCell Hlg.out _).setCell Hlg.out _)
      · have hmg : m > 14 := by omega
        clear hm2
        go_wp2_with fail
        all_goals
          refine end_tmp_cell rfl rfl (HX2.out.set2 (.int .i64 3) (.int .i64 (-1))) Tryz.underlying28 rfl (by kernel_rfl) rfl (HP.out _ _ ⟨_, [], by rw [HE.out]; rfl, OwnInts.nil _ _, ?_, fun _ => rfl, fun h => by rw [HE.out] at h; cases h⟩)
          exact ((HB2.out.setCell Hlg.out _).setCell Hlg.out _)
  · have hub : (uc == 0) = false := by simpa using h0
    have HE : Hid (colF gs fs k m = (uc, ua)) := Lib.hid (by unfold colF; rw [if_pos (by rw [Hun.out]; exact h0), Hun.out])
    have H0 := Lib.hid h0
    clear h0
    go_wp2_with fail
    go_region
    all_goals
      go_wp2_with fail
      refine end_tmp_cell rfl rfl (HX2.out.set2 (.int .i64 uc) (.int .i64 ua)) Tryz.underlying28 rfl (by kernel_rfl) rfl (HP.out _ _ ⟨_, [], by rw [HE.out]; rfl, OwnInts.nil _ _, ?_, fun _ => rfl, fun h => absurd (by rw [HE.out] at h; exact h) H0.out⟩)
      exact below_drew (((HB2.out.setCell Hlg.out _).setCell Hlg.out _))
end Go.Proofs.YtiknhfbkphoceaaGreatDoor
namespace Go.Proofs.YtiknhfbkphoceaaGreatDoor
open Go.RowKit
attribute [local go_sem] Oper.semAt_some

/-- The places of a function's registers are told whole. -/
theorem col_once {gs : List Glob} {fs : List FunU} {k m : Int} {p1 p2 : List Int}
    (h1 : (colF gs fs k m).1 ≠ 0 → p1 = []) (h2 : (colF gs fs k m).1 = 0 → ∀ f, fs[k.toNat]? = some f → Coloured f (ofF gs fs k) (acrossF gs fs k) (givenS m.toNat) (weightsF gs fs k) (listS f.regs.toNat (inU f.blocks 0)) f.regs.toNat p1)
    (h3 : (colF gs fs k m).1 ≠ 0 → p2 = []) (h4 : (colF gs fs k m).1 = 0 → ∀ f, fs[k.toNat]? = some f → Coloured f (ofF gs fs k) (acrossF gs fs k) (givenS m.toNat) (weightsF gs fs k) (listS f.regs.toNat (inU f.blocks 0)) f.regs.toNat p2) : p1 = p2 := by
  by_cases h : (colF gs fs k m).1 = 0
  · have hc : (clashF gs fs k).1 = 0 := by
      unfold colF at h
      split at h
      · rename_i hn
        exact absurd h hn
      · rename_i hn
        exact Classical.byContradiction hn
    obtain ⟨f, hf, _⟩ := (clashF_zero hc).2.2
    exact coloured_once (h2 h f hf) (h4 h f hf)
  · rw [h1 h, h3 h]

set_option maxRecDepth 100000 in
set_option maxHeartbeats 2000000 in
theorem ColourOfSays_any (gv fv : Value) (gs : List Glob) (fs : List FunU) (k m : Int) (w : World) (hk : I64 k) (_hm : I64 m) (hu : UnitAt w w.heap.size gv fv gs fs) :
    Calls Tryz.prog 3 #[.agg #[gv, fv], .int .i64 k, .int .i64 m] w fun e w' => e = .returned (.bool true) ∧ Below w.heap.size w w' := by
  have HU := Lib.hid hu
  obtain ⟨A, c, rfl, hl1, hl2⟩ := SlAt.form hu.funs
  have Hk := Lib.hid hk
  have HW0 : Hid (Below w.heap.size w (w.alloc (.cells #[gv, .slice A fs.length c] 25))) := Lib.hid ((Below.refl _ _).alloc (Nat.le_refl _) _)
  have HC0 : Hid (Blk (w.alloc (.cells #[gv, .slice A fs.length c] 25)) w.heap.size 25 #[gv, .slice A fs.length c]) := Lib.hid (Blk.new w _ _)
  clear hu hk
  go_enter Tryz.func3, Tryz.ntmps3
  go_upto_region 1 with fail
  generalize w.alloc (.cells #[gv, .slice A fs.length c] 25) = W0 at *
  have c0 := HC0.out.cell 0
  have c1 := HC0.out.cell 1
  have HU0 := Lib.hid (HU.out.later HW0.out)
  go_wp2_with fail
  refine (Colour_any gv _ gs fs k m W0 Hk.out HU0.out).mono ?_
  rintro e W1 ⟨v1, p1, rfl, ho1, hb1, hn1, hc1⟩
  obtain ⟨uc, ua, hun⟩ : ∃ uc ua, colF gs fs k m = (uc, ua) := ⟨_, _, rfl⟩
  have Hn1 := Lib.hid hn1
  have Hc1 := Lib.hid hc1
  rw [hun]
  have Hun := Lib.hid hun
  have HB1 := Lib.hid (HW0.out.trans (hb1.mono HW0.out.size))
  have HC1 := Lib.hid (HC0.out.below hb1 HC0.out.lt)
  have HO1 : Hid (OwnInts (W1.alloc (.cells #[.int .i64 uc, .int .i64 ua] 28)) W0.heap.size v1 p1) := Lib.hid (ho1.below ((Below.refl _ _).alloc (Nat.le_refl _) _) rfl)
  have HB2 : Hid (Below w.heap.size w (W1.alloc (.cells #[.int .i64 uc, .int .i64 ua] 28))) := Lib.hid (HB1.out.alloc HB1.out.size _)
  have HF2 : Hid (Blk (W1.alloc (.cells #[.int .i64 uc, .int .i64 ua] 28)) W1.heap.size 28 #[.int .i64 uc, .int .i64 ua]) := Lib.hid (Blk.new _ _ _)
  have HC2 := Lib.hid (HC1.out.alloc (.cells #[.int .i64 uc, .int .i64 ua] 28))
  clear hun ho1 hb1 c0 c1 HU0 HC0 hn1 hc1
  go_upto_region 2 with fail
  generalize W1.alloc (.cells #[.int .i64 uc, .int .i64 ua] 28) = W2 at *
  generalize W1.heap.size = g6 at *
  have c0 := HC2.out.cell 0
  have c1 := HC2.out.cell 1
  have HU2 := Lib.hid (HU.out.later HB2.out)
  go_wp2_with fail
  refine (RColour_any gv _ gs fs k m W2 Hk.out HU2.out).mono ?_
  rintro e W3 ⟨v3, p3, rfl, ho3, hb3, hn3, hc3⟩
  obtain rfl : p1 = p3 := col_once Hn1.out Hc1.out hn3 hc3
  rw [Hun.out]
  have HB3 := Lib.hid (HB2.out.trans (hb3.mono HB2.out.size))
  have HO1' := Lib.hid (HO1.out.below hb3 rfl)
  have HF3 := Lib.hid (HF2.out.below hb3 HF2.out.lt)
  have HF4 := Lib.hid (HF3.out.alloc (.cells #[.int .i64 uc, .int .i64 ua] 28))
  have HG4 : Hid (Blk (W3.alloc (.cells #[.int .i64 uc, .int .i64 ua] 28)) W3.heap.size 28 #[.int .i64 uc, .int .i64 ua]) := Lib.hid (Blk.new _ _ _)
  have HB4 : Hid (Below w.heap.size w (W3.alloc (.cells #[.int .i64 uc, .int .i64 ua] 28))) := Lib.hid (HB3.out.alloc HB3.out.size _)
  have HI1 : Hid (IntsAt (W3.alloc (.cells #[.int .i64 uc, .int .i64 ua] 28)) (W3.alloc (.cells #[.int .i64 uc, .int .i64 ua] 28)).heap.size v1 p1) := Lib.hid (OwnInts.ints (HO1'.out.below ((Below.refl _ _).alloc (Nat.le_refl _) _) rfl))
  have HI3 : Hid (IntsAt (W3.alloc (.cells #[.int .i64 uc, .int .i64 ua] 28)) (W3.alloc (.cells #[.int .i64 uc, .int .i64 ua] 28)).heap.size v3 p1) := Lib.hid (OwnInts.ints (ho3.below ((Below.refl _ _).alloc (Nat.le_refl _) _) rfl))
  clear ho3 hb3 c0 c1 HU2 HC2 HF2 hn3 hc3 Hn1 Hc1
  go_upto_region 3 with fail
  generalize W3.alloc (.cells #[.int .i64 uc, .int .i64 ua] 28) = W4 at *
  generalize W3.heap.size = g8 at *
  go_wp2_with fail
  refine (Ints_any v1 v3 _ _ W4 HI1.out HI3.out).mono ?_
  rintro e W5 ⟨rfl, hb5⟩
  rw [decide_eq_true rfl]
  have HB5 := Lib.hid (HB4.out.trans (hb5.mono HB4.out.size))
  have x0 := (HF4.out.below hb5 HF4.out.lt).cell 0
  have x1 := (HF4.out.below hb5 HF4.out.lt).cell 1
  have y0 := (HG4.out.below hb5 HG4.out.lt).cell 0
  have y1 := (HG4.out.below hb5 HG4.out.lt).cell 1
  have heq := fun W => eqFault uc ua uc ua W
  clear hb5
  go_wp2_with fail
  go_ret
  exact ⟨ret_bool (by simp), HB5.out⟩
end Go.Proofs.YtiknhfbkphoceaaGreatDoor
