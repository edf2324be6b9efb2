/-
  Several texts in one (LvD LvE): what each proves stands at its theorems.
  Conditions: as the theorems say.
-/
import Derived.Test.YtiknhfbkphoceaaGreatDoorLvC
import Derived.Test.YtiknhfbkphoceaaGreatDoorUnX
namespace Go.Proofs.YtiknhfbkphoceaaGreatDoor
open Go.RowKit

/-- The end of a function whose two results lie in cells. -/
theorem end_cells2 {P : Program} {fn : Func} {R : Ending → World → Prop} {a : Act} {w : World} {p p' : Tmp} {ty t ty' t' : TypeId} {g g' : Nat} {cs cs' : Array Value} {d d' : TypeDesc} (h : fn.results = #[.cell p ty, .cell p' ty'])
    (hp : a.tmps.getD p undef = .pointer (some ⟨g, 0, none⟩)) (hp' : a.tmps.getD p' undef = .pointer (some ⟨g', 0, none⟩)) (hb : Blk w g t cs) (hb' : Blk w g' t' cs') (hu : P.underlying ty = some d) (hd : (match d with | .struct _ | .array _ _ => true | _ => false) = true)
    (hu' : P.underlying ty' = some d') (hd' : (match d' with | .struct _ | .array _ _ => true | _ => false) = true) (hi : (P.info? ty).map (·.size) = some cs.size) (hi' : (P.info? ty').map (·.size) = some cs'.size) (hdf : a.defers = [])
    (hR : R (.returned (.tuple #[.agg cs, .agg cs'])) w) : bodyPost P fn R .ret a w := by
  refine bodyPost_ret (v := .tuple #[.agg cs, .agg cs']) ?_ hdf hR
  have hp1 : a.tmps[p]?.getD undef = .pointer (some ⟨g, 0, none⟩) := by simpa using hp
  have hp2 : a.tmps[p']?.getD undef = .pointer (some ⟨g', 0, none⟩) := by simpa using hp'
  simp [results, h, hp1, hp2, asAddr, run_loadVar_row w g t ty cs (0, 0) d hb hu hd hi, run_loadVar_row w g' t' ty' cs' (0, 0) d' hb' hu' hd' hi']
set_option maxRecDepth 100000 in
set_option maxHeartbeats 2000000 in
theorem GAhead_any (bA : Option Addr) (bl bc : Nat) (nm : ByteArray) (ps regs : Int) (blocks : List BlkU) (w : World) (hb : BlksAt w w.heap.size (.slice bA bl bc) blocks) (hn : blocks.length ≤ 40) (hto : ∀ b ∈ blocks, b.to.length ≤ 2 ∧ ∀ n ∈ b.to, 1 ≤ n ∧ n < (blocks.length : Int)) :
    Calls Tryz.prog 74 #[.agg #[.string nm, .int .i64 ps, .int .i64 regs, .slice bA bl bc]] w (AheadPost w blocks) := by
  have HBl := Lib.hid hb
  have hlen : blocks.length = bl := SlAt.len hb
  have HL := Lib.hid hlen
  have HTo := Lib.hid hto
  have hbl : bl ≤ 40 := by omega
  have HFl := Lib.hid (aheadF_len (blocks := blocks) fun b hb => (hto b hb).1)
  have HPE : Hid (∀ (g : Nat) (w' : World), AheadNow w w' g bl (aheadF blocks bl) → AheadPost w blocks (.returned (.slice (some ⟨g, 0, none⟩) bl bl)) w') := Lib.hid fun g w' ⟨⟨R, h1⟩, h2⟩ => ⟨g, R, by rw [hlen], by rw [hlen]; exact h1, h2⟩
  have hmk := fun W : World => run_make_row' (P := Tryz.prog) 33 26 (.slice none 0 0) 24 Tryz.underlying33 info_ints rfl .i64 .i64 bl (by omega) (by omega) W
  have HN0 : Hid (AheadNow w ((w.alloc (.cells #[.string nm, .int .i64 ps, .int .i64 regs, .slice bA bl bc] 43)).alloc (.cells (madeCells #[.slice none 0 0] bl) 26)) (w.heap.size + 1) bl (aheadF blocks 0)) :=
    Lib.hid ⟨⟨_, by have := RowsG.start (w.alloc (.cells #[.string nm, .int .i64 ps, .int .i64 regs, .slice bA bl bc] 43)) (base := w.heap.size) (by simp) bl; rw [World.size_alloc] at this; exact this⟩, ((Below.refl _ _).alloc (Nat.le_refl _) _).alloc (by simp) _⟩
  clear hb hto hlen hn
  go_enter Tryz.func74, Tryz.ntmps74
  go_wp2_with fail
  clear hmk
  generalize (w.alloc (.cells #[.string nm, .int .i64 ps, .int .i64 regs, .slice bA bl bc] 43)).alloc (.cells (madeCells #[.slice none 0 0] bl) 26) = W at *
  generalize w.heap.size + 1 = g at *
  go_loopw [15] (fun i wr => ∃ k : Nat, k ≤ bl ∧ i = .int .i64 k ∧ Hid (AheadNow w wr g bl (aheadF blocks k))) (fun i _ => bl - (intOf i).toNat)
  case atStart => exact ⟨0, Nat.zero_le _, rfl, HN0⟩
  case round =>
    obtain ⟨k, hk, rfl, HN⟩ := hrel
    clear HN0
    by_cases hlt : k < bl
    · obtain ⟨⟨phis, list, kind, on, ts⟩, hbk⟩ : ∃ b, blocks[k]? = some b := ⟨blocks[k]'(by rw [HL.out]; exact hlt), List.getElem?_eq_getElem _⟩
      obtain ⟨bb, boff, hbA, hbb, us, ⟨pv, lv, tv, rfl, hp, hl, ht⟩, hcell⟩ := SlAt.at HBl.out hbk
      subst hbA
      have hB := HN.out.2
      have b0 := (bcell hB hbb).trans (hcell 0 _ rfl)
      have b1 := (bcell hB hbb).trans (hcell 1 _ rfl)
      have b2 := (bcell hB hbb).trans (hcell 2 _ rfl)
      have b3 := (bcell hB hbb).trans (hcell 3 _ rfl)
      have b4 := (bcell hB hbb).trans (hcell 4 _ rfl)
      have b5 := (bcell hB hbb).trans (hcell 5 _ rfl)
      simp only [Nat.add_zero] at b0
      obtain ⟨pA, pc, rfl, _, _⟩ := SlAt.form hp
      obtain ⟨lA, lc, rfl, _, _⟩ := SlAt.form hl
      obtain ⟨tA, tc, rfl, htc, ht63, _⟩ := id ht
      simp only at ht b0 b1 b2 b3 b4 b5 htc
      obtain ⟨tl, htl⟩ : ∃ tl, ts.length = tl := ⟨_, rfl⟩
      rw [htl] at b5 htc ht
      have Htl := Lib.hid htl
      have Ht := Lib.hid ht
      have Hbk := Lib.hid hbk
      have hto2 : tl ≤ 2 := by rw [← htl]; exact (HTo.out _ (List.mem_of_getElem? hbk)).1
      have hk0 : (0 : Int) ≤ (k : Int) := Int.natCast_nonneg k
      have hk1 : (k : Int) < (bl : Int) := by omega
      have HB1 : Hid (Blk (wr.alloc (.cells #[.slice pA phis.length pc, .slice lA list.length lc, .int .i64 kind, .bool on.reg, .int .i64 on.n, .slice tA tl tc] 78)) wr.heap.size 78 #[.slice pA phis.length pc, .slice lA list.length lc, .int .i64 kind, .bool on.reg, .int .i64 on.n, .slice tA tl tc]) := Lib.hid (Blk.new _ _ _)
      have HN1 : Hid (AheadNow w (wr.alloc (.cells #[.slice pA phis.length pc, .slice lA list.length lc, .int .i64 kind, .bool on.reg, .int .i64 on.n, .slice tA tl tc] 78)) g bl (aheadT k (ts.take 0) (aheadF blocks k))) := Lib.hid ⟨by obtain ⟨R, hR⟩ := HN.out.1; exact ⟨R, hR.alloc _⟩, hB.alloc hB.size _⟩
      clear hp hl ht hcell hbk htl hB
      go_upto_region 5 with fail
      clear b0 b1 b2 b3 b4 b5
      generalize hg5 : wr.heap.size = g5 at *
      generalize wr.alloc (.cells #[.slice pA phis.length pc, .slice lA list.length lc, .int .i64 kind, .bool on.reg, .int .i64 on.n, .slice tA tl tc] 78) = W1 at *
      have b5 := HB1.out.cell 5
      clear hg5
      go_wp2_with fail
      go_loopg [24] tl (fun gk i wx => ∃ j : Nat, j + gk = tl ∧ i = .int .i64 j ∧ Hid (AheadNow w wx g bl (aheadT k (ts.take j) (aheadF blocks k))))
      case atStart => exact ⟨0, by omega, rfl, HN1⟩
      case round =>
        obtain ⟨j, hj, rfl, HNj⟩ := hrel
        rcases gk with _ | m
        · have hj2 : j = tl := by omega
          have HN2 : Hid (AheadNow w wr g bl (aheadF blocks (k + 1))) := Lib.hid (by
            rw [aheadF_succ Hbk.out]
            have := HNj.out
            rw [hj2, ← Htl.out, List.take_length] at this
            exact this)
          clear HNj
          go_wp2_with fail
          go_roundw
          case rel => exact ⟨k + 1, by omega, by go_num, HN2⟩
          case measure => simp [intOf]; omega
        · have hjt : j < tl := by omega
          obtain ⟨t, htj⟩ : ∃ t, ts[j]? = some t := ⟨ts[j]'(by rw [Htl.out]; exact hjt), List.getElem?_eq_getElem _⟩
          have hbt := (HTo.out _ (List.mem_of_getElem? Hbk.out)).2 t (List.mem_of_getElem? htj)
          rw [HL.out] at hbt
          obtain ⟨n, rfl⟩ : ∃ n : Nat, t = (n : Int) := ⟨t.toNat, by omega⟩
          obtain ⟨A', c', eA, _, _, h3⟩ := Ht.out
          obtain ⟨tb, toff, hA, htb, htc'⟩ := h3 (by rw [Htl.out]; omega)
          obtain rfl : A' = tA := ((Value.slice.inj eA).1).symm
          subst hA
          have d0 := (bcell HNj.out.2 htb).trans (htc' j _ htj)
          have Htj := Lib.hid htj
          have hj0 : (0 : Int) ≤ (j : Int) := Int.natCast_nonneg j
          have hj1 : (j : Int) < (tl : Int) := by omega
          obtain ⟨hn0, hn1⟩ := hbt
          have hnb : n < bl := by omega
          obtain ⟨⟨R, hR⟩, hB⟩ := HNj.out
          have r0 := hR.cell hnb
          have HR := Lib.hid hR
          have HB := Lib.hid hB
          have hlr := hR.blk.lt
          clear eA h3 htc' htj hR hB HNj
          obtain ⟨F, hF⟩ : ∃ F, aheadT k (ts.take j) (aheadF blocks k) = F := ⟨_, rfl⟩
          have HFn : Hid ((fun (q : Nat) => if ((q : Nat) : Int) = ((n : Nat) : Int) then F q ++ [((k : Nat) : Int)] else F q) = aheadT k (ts.take (j + 1)) (aheadF blocks k)) := Lib.hid (by rw [aheadT_snoc Htj.out, hF])
          have hfl : (F n).length ≤ 200 := by
            rw [← hF]
            have := aheadT_len (i := k) (ts := ts.take j) (HFl.out k) n
            rw [List.length_take] at this
            omega
          rw [hF] at HR
          clear hF
          obtain ⟨Ar, cr, hRn⟩ := row_form (HR.out.own n hnb)
          have HRn := Lib.hid hRn
          rw [hRn] at r0
          have HOwn : Hid (OwnInts wr w.heap.size (.slice Ar (F n).length cr) (F n)) := Lib.hid (hRn ▸ HR.out.own n hnb)
          clear hRn
          have hz := HB.out.size
          go_wp2_with (at_builtin; refine app_one rfl _ _ 26 3 rfl (.int .i64 0) 1 8 Tryz.underlying26 infoInt rfl (by decide) (by decide) w.heap.size (.slice Ar _ cr) _ _ (by rfl) HOwn.out _ [.int .i64 (k : Int)] (by rfl) rfl (fun x hx => by simp at hx; subst hx; rfl) rfl (by omega) hz ?_; intro v4 w4 HA4; obtain ⟨A4, c4, hv4⟩ := row_form HA4.out.own; subst hv4; have hb4 := HA4.out.blk HOwn.out HR.out.blk (by decide); have cg4 : w4.cell? ⟨g, n, none⟩ = some (.slice Ar (F n).length cr) := (by rw [hb4.cell n]; simp [hnb, HRn.out]); have fg4 := hb4.frozen n; have hg4 := hb4.lt; clear hb4)
          have HN3 : Hid (AheadNow w (w4.setCell ⟨g, n, none⟩ (.slice A4 ((F n).length + 1) c4)) g bl (aheadT k (ts.take (j + 1)) (aheadF blocks k))) := Lib.hid (by
            refine ⟨⟨_, HFn.out ▸ HR.out.put hnb (H := wr.heap.size + 1) (by omega) (by rw [HRn.out]; exact HA4.out)⟩, (HB.out.trans HA4.out.below).setCell HR.out.ge _⟩)
          go_roundg m
          case measure => omega
          case rel => exact ⟨j + 1, by omega, by go_num, HN3⟩
    · obtain rfl : k = bl := by omega
      go_wp2_with fail
      go_ret
      exact HPE.out _ _ HN.out
/-- The cells of a function of a unit. -/
def funV (f : FunU) (bA : Option Addr) (bc : Nat) : Array Value := #[.string f.name, .int .i64 f.params, .int .i64 f.regs, .slice bA f.blocks.length bc]
set_option maxRecDepth 100000 in
set_option maxHeartbeats 2000000 in
theorem GFunc_any (gv fv : Value) (gs : List Glob) (fs : List FunU) (n : Nat) (f : FunU) (w : World) (hun : unitF gs fs = (0, 0)) (hf : fs[n]? = some f) (hu : UnitAt w w.heap.size gv fv gs fs) :
    Calls Tryz.prog 56 #[.agg #[gv, fv], .int .i64 n] w fun e w' => ∃ bA bc, e = .returned (.tuple #[.agg (funV f bA bc), .agg #[.int .i64 0, .int .i64 0]]) ∧ BlksAt w w.heap.size (.slice bA f.blocks.length bc) f.blocks ∧ Below w.heap.size w w' := by
  have HU := Lib.hid hu
  obtain ⟨A, c, rfl, hl1, hl2⟩ := SlAt.form hu.funs
  obtain ⟨l, hl⟩ : ∃ l, fs.length = l := ⟨_, rfl⟩
  rw [hl] at HU hl1 ⊢
  have hnl : n < l := by rw [← hl]; exact (List.getElem?_eq_some_iff.1 hf).1
  obtain ⟨fb, fo, f', bA, bc, rfl, hfb, hfn, f0, f1, f2, f3, hbl⟩ := FunsAt.one HU.out.funs hnl
  obtain rfl : f = f' := by rw [hf] at hfn; exact Option.some.inj hfn
  have HBL := Lib.hid hbl
  have Hun := Lib.hid hun
  obtain ⟨nm, ps, regs, blocks⟩ := f
  simp only at f0 f1 f2 f3 HBL
  obtain ⟨bl, hbl2⟩ : ∃ bl, blocks.length = bl := ⟨_, rfl⟩
  rw [hbl2] at f3 HBL
  have HP : Hid (∀ w', Below w.heap.size w w' → ∃ bA2 bc2, (Ending.returned (.tuple #[.agg #[.string nm, .int .i64 ps, .int .i64 regs, .slice bA bl bc], .agg #[.int .i64 0, .int .i64 0]])) = .returned (.tuple #[.agg (funV ⟨nm, ps, regs, blocks⟩ bA2 bc2), .agg #[.int .i64 0, .int .i64 0]]) ∧ BlksAt w w.heap.size (.slice bA2 blocks.length bc2) blocks ∧ Below w.heap.size w w') := Lib.hid fun w' hb => ⟨bA, bc, by unfold funV; simp only [hbl2], by rw [hbl2]; exact HBL.out, hb⟩
  have HW0 : Hid (Below w.heap.size w (((w.alloc (.cells #[gv, .slice (some ⟨fb, fo, none⟩) l c] 25)).alloc (.cells #[.string ⟨#[]⟩, .int .i64 0, .int .i64 0, .slice none 0 0] 43)).alloc (.cells #[.int .i64 0, .int .i64 0] 28))) := Lib.hid ((((Below.refl _ _).alloc (Nat.le_refl _) _).alloc (by simp) _).alloc (by simp; omega) _)
  have HC0 : Hid (Blk (((w.alloc (.cells #[gv, .slice (some ⟨fb, fo, none⟩) l c] 25)).alloc (.cells #[.string ⟨#[]⟩, .int .i64 0, .int .i64 0, .slice none 0 0] 43)).alloc (.cells #[.int .i64 0, .int .i64 0] 28)) w.heap.size 25 #[gv, .slice (some ⟨fb, fo, none⟩) l c]) := Lib.hid (((Blk.new w _ _).alloc _).alloc _)
  have HF0 : Hid (Blk (((w.alloc (.cells #[gv, .slice (some ⟨fb, fo, none⟩) l c] 25)).alloc (.cells #[.string ⟨#[]⟩, .int .i64 0, .int .i64 0, .slice none 0 0] 43)).alloc (.cells #[.int .i64 0, .int .i64 0] 28)) (w.heap.size + 1) 43 #[.string ⟨#[]⟩, .int .i64 0, .int .i64 0, .slice none 0 0]) := Lib.hid (by
    have h := Blk.new (w.alloc (.cells #[gv, .slice (some ⟨fb, fo, none⟩) l c] 25)) 43 #[.string ⟨#[]⟩, .int .i64 0, .int .i64 0, .slice none 0 0]
    rw [World.size_alloc] at h
    exact h.alloc _)
  have HX0 : Hid (Blk (((w.alloc (.cells #[gv, .slice (some ⟨fb, fo, none⟩) l c] 25)).alloc (.cells #[.string ⟨#[]⟩, .int .i64 0, .int .i64 0, .slice none 0 0] 43)).alloc (.cells #[.int .i64 0, .int .i64 0] 28)) (w.heap.size + 1 + 1) 28 #[.int .i64 0, .int .i64 0]) := Lib.hid (by
    have h := Blk.new ((w.alloc (.cells #[gv, .slice (some ⟨fb, fo, none⟩) l c] 25)).alloc (.cells #[.string ⟨#[]⟩, .int .i64 0, .int .i64 0, .slice none 0 0] 43)) 28 #[.int .i64 0, .int .i64 0]
    rw [World.size_alloc, World.size_alloc] at h
    exact h)
  clear hu hun hf hfn hbl hbl2
  go_enter Tryz.func56, Tryz.ntmps56
  go_upto_region 1 with fail
  generalize (((w.alloc (.cells #[gv, .slice (some ⟨fb, fo, none⟩) l c] 25)).alloc (.cells #[.string ⟨#[]⟩, .int .i64 0, .int .i64 0, .slice none 0 0] 43)).alloc (.cells #[.int .i64 0, .int .i64 0] 28)) = V0 at *
  generalize hg1 : w.heap.size + 1 = g1 at *
  generalize hg2 : g1 + 1 = g2 at *
  have c0 := HC0.out.cell 0
  have c1 := HC0.out.cell 1
  have HU0 := Lib.hid (HU.out.later HW0.out)
  go_wp2_with fail
  refine (Check_any gv _ gs fs V0 HU0.out.globs HU0.out.funs HU0.out.gok HU0.out.fok HU0.out.ways).mono ?_
  rintro e W1 ⟨rfl, hb1⟩
  rw [Hun.out]
  have HB1 : Hid (Below w.heap.size w (W1.alloc (.cells #[.int .i64 0, .int .i64 0] 28))) := Lib.hid ((HW0.out.trans (hb1.mono HW0.out.size)).alloc (HW0.out.trans (hb1.mono HW0.out.size)).size _)
  have HC1 := Lib.hid ((HC0.out.below hb1 HC0.out.lt).alloc (.cells #[.int .i64 0, .int .i64 0] 28))
  have HF1 := Lib.hid ((HF0.out.below hb1 HF0.out.lt).alloc (.cells #[.int .i64 0, .int .i64 0] 28))
  have HX1 := Lib.hid ((HX0.out.below hb1 HX0.out.lt).alloc (.cells #[.int .i64 0, .int .i64 0] 28))
  clear hb1 c0 c1 HU0 HC0 HX0 HF0 HW0
  have c1 := HC1.out.cell 1
  have q0 := HF1.out.cell 0
  have q1 := HF1.out.cell 1
  have q2 := HF1.out.cell 2
  have q3 := HF1.out.cell 3
  have x0 := HX1.out.cell 0
  have x1 := HX1.out.cell 1
  have z0 := HF1.out.frozen 0
  have z1 := HF1.out.frozen 1
  have z2 := HF1.out.frozen 2
  have z3 := HF1.out.frozen 3
  have y0 := HX1.out.frozen 0
  have y1 := HX1.out.frozen 1
  have hgl2 := HX1.out.lt
  have hgl1 := HF1.out.lt
  have ne1 : w.heap.size ≠ g1 := by omega
  have ne2 : w.heap.size ≠ g2 := by omega
  have ne3 : g1 ≠ g2 := by omega
  have nf1 : fb ≠ g1 := by omega
  have nf2 : fb ≠ g2 := by omega
  have Hlg : Hid (w.heap.size ≤ g1 ∧ w.heap.size ≤ g2) := Lib.hid (by omega)
  clear hg1 hg2
  have heq := fun W => eqFault 0 0 0 0 W
  have HW := Lib.hid (Within_any (n : Int) 0 ((l : Int) - 1))
  have hd : decide ((0 : Int) ≤ (n : Int) ∧ (n : Int) ≤ (l : Int) - 1) = true := by rw [decide_eq_true_iff]; omega
  have hl63 : (l : Int) ≤ 9223372036854775807 := by omega
  have f0 := (bcell HB1.out hfb).trans f0
  have f1 := (bcell HB1.out hfb).trans f1
  have f2 := (bcell HB1.out hfb).trans f2
  have f3 := (bcell HB1.out hfb).trans f3
  go_wp2_with fail
  refine (HW.out _).mono ?_
  rintro e w2 ⟨rfl, rfl⟩
  rw [hd]
  go_wp2_with fail
  have HXE := Lib.hid (((((HX1.out.far (p := ⟨g1, 0, none⟩) ne3.symm (.string nm)).far (p := ⟨g1, 1, none⟩) ne3.symm (.int .i64 ps)).far (p := ⟨g1, 2, none⟩) ne3.symm (.int .i64 regs)).far (p := ⟨g1, 3, none⟩) ne3.symm (.slice bA bl bc)).set2 (.int .i64 0) (.int .i64 0))
  have HFE := Lib.hid (((((((HF1.out.set_ 0 (.string nm)).set_ 1 (.int .i64 ps)).set_ 2 (.int .i64 regs)).set_ 3 (.slice bA bl bc)).far (p := ⟨g2, 0, none⟩) ne3 (.int .i64 0)).far (p := ⟨g2, 1, none⟩) ne3 (.int .i64 0)))
  have HBE := Lib.hid ((((((HB1.out.setCell (p := ⟨g1, 0, none⟩) Hlg.out.1 (.string nm)).setCell (p := ⟨g1, 1, none⟩) Hlg.out.1 (.int .i64 ps)).setCell (p := ⟨g1, 2, none⟩) Hlg.out.1 (.int .i64 regs)).setCell (p := ⟨g1, 3, none⟩) Hlg.out.1 (.slice bA bl bc)).setCell (p := ⟨g2, 0, none⟩) Hlg.out.2 (.int .i64 0)).setCell (p := ⟨g2, 1, none⟩) Hlg.out.2 (.int .i64 0))
  exact end_cells2 rfl rfl rfl HFE.out HXE.out Tryz.underlying43 rfl Tryz.underlying28 rfl (by kernel_rfl) (by kernel_rfl) rfl (HP.out _ HBE.out)
end Go.Proofs.YtiknhfbkphoceaaGreatDoor
namespace Go.Proofs.YtiknhfbkphoceaaGreatDoor
open Go.RowKit
attribute [local go_sem] Oper.semAt_some

theorem Backward_any (xA : Option Addr) (xl xc : Nat) (w : World) :
    Calls Tryz.prog 52 #[.slice xA xl xc] w fun e w' => e = .returned (.func (.func 71) #[] #[.pointer (some ⟨w.heap.size, 0, none⟩)]) ∧ w' = w.alloc (.cells #[.slice xA xl xc] 74) := by
  go_enter Tryz.func52, Tryz.ntmps52
  go_wp2_with fail
  go_ret
  exact ⟨rfl, rfl⟩
/-- An instruction of a list, its place, and the value that holds its arguments. -/
def BackEl (W0 : World) (B : Nat) (xs : List InsU) : Type := { q : Nat × InsU × Value // xs[q.1]? = some q.2.1 ∧ OpdsAt W0 B q.2.2 q.2.1.args }
def insC2 (x : InsU) (v : Value) : Array Value := #[.int .i64 x.op, .int .i64 x.dst, .bool x.a.reg, .int .i64 x.a.n, .bool x.b.reg, .int .i64 x.b.n, .int .i64 x.fn, v]
def BackEl.ins {W0 : World} {B : Nat} {xs : List InsU} (q : BackEl W0 B xs) : InsU := q.1.2.1
def BackEl.cells {W0 : World} {B : Nat} {xs : List InsU} (q : BackEl W0 B xs) : Array Value := insC2 q.1.2.1 q.1.2.2
def BackEl.encs {W0 : World} {B : Nat} {xs : List InsU} (q : BackEl W0 B xs) : Array Value := #[.int .i64 (q.1.1 : Int), .agg q.cells]
theorem drop_pred {α : Type} {xs : List α} {m : Nat} {x : α} (h : xs[m]? = some x) : (xs.drop m).reverse = (xs.drop (m + 1)).reverse ++ [x] := by
  have hlt := (List.getElem?_eq_some_iff.1 h).1
  rw [List.drop_eq_getElem_cons hlt, (List.getElem?_eq_some_iff.1 h).2]
  simp
set_option maxRecDepth 100000 in
set_option maxHeartbeats 2000000 in
/-- The closure of Backward, for a body that keeps all cells but those of block g. -/
theorem back1_in (n : Nat) (hn : 1 ≤ n) (l Bn g n₀ : Nat) (xs : List InsU) (xA : Option Addr) (xl xc : Nat) (W0 : World) (J Jx : List (BackEl W0 n₀ xs) → World → Prop) (W : World) (hBg : Bn ≠ g) (hng : n₀ ≤ g) (hK : Kept W0 W n₀)
    (hX : Blk W Bn 74 #[.slice xA xl xc]) (hA : InssAt W0 n₀ (.slice xA xl xc) xs)
    (hY : ∀ pre v W1, J pre W1 → pre.length < xs.length → YieldAt Fence.wide (n - 1) Tryz.prog l v.encs W1 fun e W' =>
      (e = .returned (.bool true) ∧ J (pre ++ [v]) W' ∧ CellsBut g W1 W') ∨ (e = .returned (.bool false) ∧ Jx (pre ++ [v]) W')) (h0 : J [] W) :
    CallsIn Fence.wide n Tryz.prog 71 #[.func (.yield l) #[] #[], .pointer (some ⟨Bn, 0, none⟩)] W fun e W' => (∃ v, e = .returned v) ∧
      ((∃ ys, ys.map BackEl.ins = xs.reverse ∧ J ys W') ∨ (∃ pre, True ∧ Jx pre W')) := by
  have HY := Lib.hid hY
  have HX := Lib.hid hX
  have HA := Lib.hid hA
  have HK := Lib.hid hK
  have H0 := Lib.hid h0
  have x0 := hX.cell 0
  have hBl := hX.lt
  have hl := SlAt.len hA
  have hl63 : xl ≤ 9223372036854775807 := by
    obtain ⟨A', c', e, h1, h2⟩ := SlAt.form hA
    omega
  have Hl := Lib.hid hl
  clear hY hX hA hK h0 hl
  refine callsIn_of_wp Tryz.func71 rfl trivial ?_ rfl
  simp only [Tryz.ntmps71, List.size_toArray, List.length_cons, List.length_nil, Nat.reduceAdd, Nat.reduceSub, Array.replicate_succ, Array.replicate_zero, List.push_toArray, List.append_toArray, List.nil_append, List.cons_append]
  gi_wp2_with fail
  gi_loopw [3] (fun i wr => ∃ k : Nat, k ≤ xl ∧ i = .int .i64 ((k : Int) - 1) ∧ Hid (∃ ys : List (BackEl W0 n₀ xs), ys.map BackEl.ins = (xs.drop k).reverse ∧ ys.length + k = xl ∧ J ys wr) ∧ Hid (CellsBut g W wr)) (fun i _ => (intOf i + 1).toNat)
  case atStart => exact ⟨xl, Nat.le_refl _, rfl, Lib.hid ⟨[], by rw [← Hl.out, List.drop_length]; rfl, by simp, H0.out⟩, Lib.hid (CellsBut.refl _ _)⟩
  case round =>
    obtain ⟨k, hk, rfl, HJk, HCk⟩ := hrel
    have x0 := (HCk.out.blk HX.out hBg).cell 0
    rcases k with _ | m
    · have HE : Hid (∃ ys : List (BackEl W0 n₀ xs), ys.map BackEl.ins = xs.reverse ∧ J ys wr) := Lib.hid (by
        obtain ⟨ys, h1, _, h2⟩ := HJk.out
        exact ⟨ys, by rw [h1, List.drop_zero], h2⟩)
      have hneg : ¬ ((0 : Int) ≤ ((0 : Nat) : Int) - 1) := by omega
      gi_wp2_with fail
      go_end0
      exact ⟨⟨_, rfl⟩, .inl HE.out⟩
    · have hm : (((m + 1 : Nat) : Int) - 1) = (m : Int) := by omega
      simp only [hm]
      have hm0 : (0 : Int) ≤ (m : Int) := Int.natCast_nonneg m
      have hm1 : (m : Int) < (xl : Int) := by omega
      have hmx : m < xl := by omega
      obtain ⟨ib, io, x, aA, ac, rfl, hib, hxm, i0, i1, i2, i3, i4, i5, i6, i7, hargs⟩ := InssAt.one HA.out hmx
      have mv : ∀ {o : Nat} {u : Value}, W0.cell? ⟨ib, o, none⟩ = some u → wr.cell? ⟨ib, o, none⟩ = some u := fun h => HCk.out.cell ((HK.out _ _ hib).trans h) (by omega)
      have i0 := mv i0
      have i1 := mv i1
      have i2 := mv i2
      have i3 := mv i3
      have i4 := mv i4
      have i5 := mv i5
      have i6 := mv i6
      have i7 := mv i7
      clear mv
      obtain ⟨ys, hys, hyl, hJ⟩ := HJk.out
      obtain ⟨q, hq⟩ : ∃ q : BackEl W0 n₀ xs, q = ⟨(m, x, .slice aA x.args.length ac), hxm, hargs⟩ := ⟨_, rfl⟩
      have hqe : q.encs = #[.int .i64 (m : Int), .agg #[.int .i64 x.op, .int .i64 x.dst, .bool x.a.reg, .int .i64 x.a.n, .bool x.b.reg, .int .i64 x.b.n, .int .i64 x.fn, .slice aA x.args.length ac]] := by subst hq; rfl
      have Hqi : Hid (q.ins = x) := Lib.hid (by subst hq; rfl)
      have HY1 := HY.out ys q wr hJ (by rw [Hl.out]; omega)
      rw [hqe] at HY1
      obtain ⟨fn, tmps, assign, body, hy, hR⟩ := HY1
      have Hys := Lib.hid hys
      have Hyl := Lib.hid hyl
      have Hxm := Lib.hid hxm
      clear hq hqe hys hyl hJ hargs hxm hm
      gi_wp2_with fail
      refine hR.mono ?_
      rintro e W3 (⟨rfl, hJ3, hk3⟩ | ⟨rfl, hJx3⟩)
      · have HJ3 : Hid (∃ ys : List (BackEl W0 n₀ xs), ys.map BackEl.ins = (xs.drop m).reverse ∧ ys.length + m = xl ∧ J ys W3) := Lib.hid ⟨ys ++ [q], by rw [List.map_append, Hys.out, drop_pred Hxm.out, List.map_singleton, Hqi.out], by have := Hyl.out; simp; omega, hJ3⟩
        have HC3 := Lib.hid (HCk.out.trans hk3)
        clear hJ3 hk3 hy hR
        gi_wp2_with fail
        go_roundw
        case rel => exact ⟨m, by omega, by go_num, HJ3, HC3⟩
        case measure => simp [intOf]
      · have HP : Hid (∃ pre, Jx pre W3) := Lib.hid ⟨_, hJx3⟩
        clear hJx3 hy hR
        gi_wp2_with fail
        refine bodyPost_ret (results_none rfl _ _ _) rfl ?_
        obtain ⟨pre, hp⟩ := HP.out
        exact ⟨⟨_, rfl⟩, .inr ⟨pre, trivial, hp⟩⟩
theorem back_stops (n : Nat) (hn : 1 ≤ n) (Bn g n₀ : Nat) (xs : List InsU) (xA : Option Addr) (xl xc : Nat) (w : World) (hBg : Bn ≠ g) (hng : n₀ ≤ g) (hnw : n₀ ≤ w.heap.size)
    (hX : Blk w Bn 74 #[.slice xA xl xc]) (hA : InssAt w n₀ (.slice xA xl xc) xs) :
    SeqStopsK Fence.wide n Tryz.prog 71 #[.pointer (some ⟨Bn, 0, none⟩)] (fun q : BackEl w n₀ xs => q.encs) (CellsBut g) (fun ys => ys.map BackEl.ins = xs.reverse) (fun _ => True) xs.length w := fun l J Jx W hW _ _ hY h0 =>
  back1_in n hn l Bn g n₀ xs xA xl xc w J Jx W hBg hng (kept_of hW hnw) (hX.below hW hX.lt) hA (fun pre v W1 hj hl => hY pre v W1 hj hl) h0
end Go.Proofs.YtiknhfbkphoceaaGreatDoor
