/-
  Texts of the claim AsmWholeSays (AwH AwI): what each proves stands at its theorems.
  Conditions: as the theorems say.
-/
import Derived.BigQuiet
import Derived.Test.YtdldochhondifaaGreatDoorVAwG
namespace Go.Proofs.YtdldochhondifaaGreatDoor
open Go.RowKit
attribute [local go_sem] Oper.semAt_some

/-- What Whole leaves. -/
def WholePost (r : (List Glob × List Rout) × (Int × Int)) (e : Ending) (w' : World) : Prop :=
  ∃ gA gn gc rA rn rc, e = .returned (.tuple #[.agg #[.slice gA gn gc, .slice rA rn rc], .agg #[.int .i64 r.2.1, .int .i64 r.2.2]]) ∧ GlobsAt w' w'.heap.size (.slice gA gn gc) r.1.1 ∧ RoutsAt w' w'.heap.size (.slice rA rn rc) r.1.2
theorem globs_nil (w : World) (B : Nat) : GlobsAt w B (.slice none 0 0) [] := ⟨none, 0, rfl, by simp, by omega, fun h => by simp at h⟩
theorem routs_nil (w : World) (B : Nat) : RoutsAt w B (.slice none 0 0) [] := ⟨none, 0, rfl, by simp, by omega, fun h => by simp at h⟩
/-- Both results laid. -/
theorem two_cells {W : World} {gi gf : Nat} {t t' : TypeId} {a b c d : Value} (hi : Blk W gi t #[a, b]) (hf : Blk W gf t' #[c, d]) (hne : gi ≠ gf) (u v x y : Value) :
    Blk ((((W.setCell ⟨gi, 0, none⟩ u).setCell ⟨gi, 1, none⟩ v).setCell ⟨gf, 0, none⟩ x).setCell ⟨gf, 1, none⟩ y) gi t #[u, v] ∧ Blk ((((W.setCell ⟨gi, 0, none⟩ u).setCell ⟨gi, 1, none⟩ v).setCell ⟨gf, 0, none⟩ x).setCell ⟨gf, 1, none⟩ y) gf t' #[x, y] :=
  ⟨((hi.set2 u v).far (p := ⟨gf, 0, none⟩) hne x).far (p := ⟨gf, 1, none⟩) hne y, ((hf.far (p := ⟨gi, 0, none⟩) (fun e => hne e.symm) u).far (p := ⟨gi, 1, none⟩) (fun e => hne e.symm) v).set2 x y⟩
/-- A world that differs from another in no block. -/
structure SameMem (w w' : World) : Prop where
  os : w'.os = w.os
  tape : w'.tape = w.tape
  output : w'.output = w.output
  heap : w'.heap = w.heap
theorem SameMem.refl (w : World) : SameMem w w := ⟨rfl, rfl, rfl, rfl⟩
theorem SameMem.below {B : Nat} {v w w' : World} (h : SameMem w w') (hb : Below B v w) : Below B v w' := ⟨h.os.trans hb.os, h.tape.trans hb.tape, h.output.trans hb.output, by rw [h.heap]; exact hb.size, fun k hk => by rw [h.heap]; exact hb.block k hk⟩
/-- An end with a fault, or with nothing read. -/
theorem whole_bad {a : Act} {w W W' : World} {gi gf : Nat} {x0 x1 y0 y1 : Value} {r : (List Glob × List Rout) × (Int × Int)} {c p : Int} (h2 : a.tmps.getD 2 undef = .pointer (some ⟨gi, 0, none⟩)) (h3 : a.tmps.getD 3 undef = .pointer (some ⟨gf, 0, none⟩)) (hdf : a.defers = [])
    (hi : Blk W gi 43 #[x0, x1]) (hf : Blk W gf 24 #[y0, y1]) (hgi : w.heap.size ≤ gi) (hgf : w.heap.size ≤ gf) (hb : Below w.heap.size w W) (hr : r = (([], []), (c, p)))
    (hW : SameMem ((((W.setCell ⟨gi, 0, none⟩ (.slice none 0 0)).setCell ⟨gi, 1, none⟩ (.slice none 0 0)).setCell ⟨gf, 0, none⟩ (.int .i64 c)).setCell ⟨gf, 1, none⟩ (.int .i64 p)) W') :
    bodyPost Tryz.prog Tryz.f17 (fun e w' => WholePost r e w' ∧ Below w.heap.size w w') .ret a W' := by
  have hne : gi ≠ gf := fun e => by subst e; exact absurd (blk_ty hi hf) (by decide)
  obtain ⟨b1, b2⟩ := two_cells hi hf hne (.slice none 0 0) (.slice none 0 0) (.int .i64 c) (.int .i64 p)
  have c1 : Blk W' gi 43 #[.slice none 0 0, .slice none 0 0] := by unfold Blk at b1 ⊢; rw [hW.heap]; exact b1
  have c2 : Blk W' gf 24 #[.int .i64 c, .int .i64 p] := by unfold Blk at b2 ⊢; rw [hW.heap]; exact b2
  refine end_cell2w rfl h2 c1 Tryz.underlying43 rfl (by kernel_rfl) h3 c2 Tryz.underlying24 rfl (by kernel_rfl) hdf ⟨⟨none, 0, 0, none, 0, 0, by rw [hr], ?_, ?_⟩, hW.below ((((hb.setCell hgi _).setCell hgi _).setCell hgf _).setCell hgf _)⟩
  · rw [hr]; exact globs_nil _ _
  · rw [hr]; exact routs_nil _ _
/-- The end with an image. -/
theorem whole_done {a : Act} {w W : World} {wx gi gf g8 : Nat} {gA sA rA : Option Addr} {gn gc sn sc rn rc : Nat} {gl : List (Glob × Value)} {ds : List SecD} {es : List SecE} {rl : List (Rout × Value)} {r : (List Glob × List Rout) × (Int × Int)} (h2 : a.tmps.getD 2 undef = .pointer (some ⟨gi, 0, none⟩)) (h3 : a.tmps.getD 3 undef = .pointer (some ⟨gf, 0, none⟩)) (hdf : a.defers = [])
    (h : Ph2 W w.heap.size wx gi gf g8 (.slice gA gn gc) (.slice sA sn sc) (.slice rA rn rc) gl ds es rl) (hgi : w.heap.size ≤ gi) (hgf : w.heap.size ≤ gf) (hb : Below w.heap.size w W) (hr : r = ((gl.map (fun g => g.1), rl.map (fun r => r.1)), (0, 0))) :
    bodyPost Tryz.prog Tryz.f17 (fun e w' => WholePost r e w' ∧ Below w.heap.size w w') .ret a ((((W.setCell ⟨gi, 0, none⟩ (.slice gA gn gc)).setCell ⟨gi, 1, none⟩ (.slice rA rn rc)).setCell ⟨gf, 0, none⟩ (.int .i64 0)).setCell ⟨gf, 1, none⟩ (.int .i64 0)) := by
  have hne : gi ≠ gf := fun e => by have h1 := h.flt; rw [← e] at h1; exact absurd (blk_ty h.res h1) (by decide)
  obtain ⟨b1, b2⟩ := two_cells h.res h.flt hne (.slice gA gn gc) (.slice rA rn rc) (.int .i64 0) (.int .i64 0)
  have hst : ∀ k, k ≠ gi → k ≠ gf → ((((W.setCell ⟨gi, 0, none⟩ (.slice gA gn gc)).setCell ⟨gi, 1, none⟩ (.slice rA rn rc)).setCell ⟨gf, 0, none⟩ (.int .i64 0)).setCell ⟨gf, 1, none⟩ (.int .i64 0)).heap[k]? = W.heap[k]? := fun k e1 e2 =>
    (Below.heap_setCell _ ⟨gf, 1, none⟩ _ k e2).trans ((Below.heap_setCell _ ⟨gf, 0, none⟩ _ k e2).trans ((Below.heap_setCell _ ⟨gi, 1, none⟩ _ k e1).trans (Below.heap_setCell _ ⟨gi, 0, none⟩ _ k e1)))
  have hrow : ∀ {b s n : Nat} {t : TypeId} {v : Value} {xs : List Value}, W.ownsRow b t s v n xs → t ≠ 43 → t ≠ 24 → ((((W.setCell ⟨gi, 0, none⟩ (.slice gA gn gc)).setCell ⟨gi, 1, none⟩ (.slice rA rn rc)).setCell ⟨gf, 0, none⟩ (.int .i64 0)).setCell ⟨gf, 1, none⟩ (.int .i64 0)).ownsRow b t s v n xs := fun hv h1 h2 =>
    own_at hv fun k e => hst k (by rintro rfl; exact ownBlk_ne hv h.res h1 e) (by rintro rfl; exact ownBlk_ne hv h.flt h2 e)
  refine end_cell2w rfl h2 b1 Tryz.underlying43 rfl (by kernel_rfl) h3 b2 Tryz.underlying24 rfl (by kernel_rfl) hdf ⟨⟨gA, gn, gc, rA, rn, rc, by rw [hr], ?_, ?_⟩, (((hb.setCell hgi _).setCell hgi _).setCell hgf _).setCell hgf _⟩
  · rw [hr]
    exact OwnGl.globs ⟨hrow h.whe.globs.row (by decide) (by decide), fun g hg => hrow (h.whe.globs.inits g hg) (by decide) (by decide)⟩
  · rw [hr]
    exact OwnRts.routs ⟨hrow h.rts.row (by decide) (by decide), fun g hg => hrow (h.rts.codes g hg) (by decide) (by decide)⟩
theorem infoRt : (Tryz.prog.info? 76).map (fun i => (i.zero, i.size, i.bytes)) = some (some (.agg #[.string ⟨#[]⟩, .slice none 0 0]), 2, 40) := by kernel_rfl
theorem sect_zero {names : List (List UInt8)} {st : PSt} (h : sectP names st = 0) : settleP st = none ∧ (checkS (linked names st)).1 = 0 := by
  unfold sectP at h
  split at h
  · cases h
  split at h
  · cases h
  rename_i h1 _
  refine ⟨?_, h⟩
  cases hs : settleP st with
  | none => rfl
  | some j => rw [hs] at h1; exact absurd rfl h1
/-- What is read may be asked of the machine. -/
theorem whole_ok {x : WSt} {n : Nat} (h : WOk x n) (hn : n ≤ 1000000) (hb : ∀ k, k < x.secs.length → secBad x.secs k = 0) : GOk x.globs ∧ ROk (routsP x.secs) := by
  refine ⟨fun g hg => ⟨by have := (h.2.2.1 g hg).1; omega, (h.2.2.1 g hg).2.1⟩, fun r hr => ?_⟩
  unfold routsP at hr
  obtain ⟨y, hy, rfl⟩ := List.mem_map.1 hr
  obtain ⟨j, hj⟩ := List.mem_iff_getElem?.1 hy
  have h1 := hb j (List.getElem?_eq_some_iff.1 hj).1
  unfold secBad at h1
  rw [hj] at h1
  obtain ⟨h2, h3⟩ := sect_zero h1
  have h4 := h.2.2.2 y hy
  refine ⟨by show (mkS y.name).size ≤ _; rw [mkS_size]; omega, bytesS_ok h3 (linked_ok h2 h4.2 hn ?_)⟩
  unfold secNames
  rw [List.length_map]
  have := h.2.1
  omega
/-- The sections from the j-th on are as they were read. -/
def EsOk (x : WSt) (names : List (List UInt8)) (j : Nat) (es : List SecE) : Prop := es.map (fun e => e.name) = names ∧ ∀ k, j ≤ k → es[k]? = (x.secs.map entOf)[k]?
set_option maxRecDepth 100000 in
set_option maxHeartbeats 8000000 in
theorem Whole_any (t : List UInt8) (ht : t.length ≤ 9223372036854775807) (w : World) (hS : Std w) :
    Calls Tryz.prog 17 #[.string (mkS t)] w fun e w' => WholePost (wholeP t) e w' ∧ Below w.heap.size w w' := by
  obtain ⟨n, hn⟩ : ∃ n, t.length = n := ⟨_, rfl⟩
  have hz : (mkS t).size = n := by rw [mkS_size, hn]
  have Hn := Lib.hid hn
  have HS := Lib.hid hS
  obtain ⟨W0, hW0⟩ : ∃ W0, (w.alloc (.cells #[.slice none 0 0, .slice none 0 0] 43)).alloc (.cells #[.int .i64 0, .int .i64 0] 24) = W0 := ⟨_, rfl⟩
  obtain ⟨gf, hgf⟩ : ∃ gf, w.heap.size + 1 = gf := ⟨_, rfl⟩
  have HB0 : Hid (Below w.heap.size w W0) := Lib.hid (by rw [← hW0]; exact ((Below.refl _ _).alloc (Nat.le_refl _) _).alloc (by simp) _)
  have HI0 : Hid (Blk W0 w.heap.size 43 #[.slice none 0 0, .slice none 0 0]) := Lib.hid (by rw [← hW0]; exact (Blk.new w _ _).alloc _)
  have HX0 : Hid (Blk W0 gf 24 #[.int .i64 0, .int .i64 0]) := Lib.hid (by
    have h := Blk.new (w.alloc (.cells #[.slice none 0 0, .slice none 0 0] 43)) 24 #[.int .i64 0, .int .i64 0]
    rw [hW0] at h
    simp only [World.size_alloc] at h
    rw [← hgf]
    exact h)
  rw [hn] at ht
  clear hS hn
  go_enter Tryz.func17, Tryz.ntmps17
  go_upto_region 1 with fail
  have Hgf := Lib.hid hgf
  have ne1 : ¬ w.heap.size = gf := by omega
  have ne2 : ¬ gf = w.heap.size := by omega
  clear hW0 hgf
  by_cases h8 : 80000 < n
  · have h8' : (n : Int) > 80000 := by omega
    have HE : Hid (wholeP t = (([], []), (2, 0))) := Lib.hid (by unfold wholeP; rw [if_pos (by rw [Hn.out]; exact h8)])
    have x0 := HI0.out.cell 0
    have x1 := HI0.out.cell 1
    have y0 := HX0.out.cell 0
    have y1 := HX0.out.cell 1
    have f0 := HI0.out.frozen 0
    have f1 := HI0.out.frozen 1
    have z0 := HX0.out.frozen 0
    have z1 := HX0.out.frozen 1
    clear h8
    go_wp2_with fail
    exact whole_bad (by rfl) (by rfl) (by rfl) HI0.out HX0.out (Nat.le_refl _) (by have := Hgf.out; omega) HB0.out HE.out (SameMem.refl _)
  · have h8' : ¬ (n : Int) > 80000 := by omega
    have hn8 : n ≤ 80000 := by omega
    have HRd : Hid (¬ 80000 < t.length) := Lib.hid (by rw [Hn.out]; exact h8)
    clear h8
    have HL := Lib.hid (lines_len t)
    obtain ⟨W1, hW1⟩ : ∃ W1, W0.alloc (.cells #[.slice none 0 0, .slice none 0 0] 70) = W1 := ⟨_, rfl⟩
    obtain ⟨wx, hwx⟩ : ∃ wx, W0.heap.size = wx := ⟨_, rfl⟩
    have hgl : gf < wx := by rw [← hwx]; exact HX0.out.lt
    have hb01 : Below W0.heap.size W0 W1 := by rw [← hW1]; exact (Below.refl _ _).alloc (Nat.le_refl _) _
    have HM1 : Hid (WhM W1 w.heap.size wx (.slice none 0 0) (.slice none 0 0) [] [] ⟨[], []⟩) := Lib.hid (by
      refine ⟨by rw [← hW1, ← hwx]; exact Blk.new _ _ _, OwnGl.nil _ _, rfl, OwnPs.nil _ _, SecsM.nil _ _, ?_⟩
      have := Hgf.out
      omega)
    have HX1 : Hid (Blk W1 gf 24 #[.int .i64 0, .int .i64 0]) := Lib.hid (HX0.out.below hb01 HX0.out.lt)
    have HI1 : Hid (Blk W1 w.heap.size 43 #[.slice none 0 0, .slice none 0 0]) := Lib.hid (HI0.out.below hb01 HI0.out.lt)
    have HB1 : Hid (Below w.heap.size w W1) := Lib.hid (HB0.out.trans (hb01.mono HB0.out.size))
    have HS1 : Hid (Std W1) := Lib.hid (HS.out.own HB1.out)
    have HLs := Lib.hid (lines_any t (by rw [Hn.out]; omega) W1 HS1.out)
    clear HX0 HI0 HB0 hb01
    go_upto_region 4 with fail
    have Hwx := Lib.hid hgl
    clear hW1 hwx hz hgl
    clear W0
    go_wp2_with fail
    refine HLs.out.mono ?_
    rintro e W2 ⟨⟨lv, rfl, hown⟩, hb⟩
    obtain ⟨lA, lc, hlv⟩ := hown.len
    subst hlv
    obtain ⟨ln, hln⟩ : ∃ ln, (linesL t).length = ln := ⟨_, rfl⟩
    have Hln := Lib.hid hln
    rw [hln] at hown ⊢
    have HOwn := Lib.hid hown
    have hlm : ln ≤ 80001 := by have := HL.out; rw [Hln.out, Hn.out] at this; omega
    have HX2 := Lib.hid (HX1.out.below hb HX1.out.lt)
    have HI2 := Lib.hid (HI1.out.below hb HI1.out.lt)
    have HM2 : Hid (WhM W2 w.heap.size wx (.slice none 0 0) (.slice none 0 0) [] [] ⟨[], []⟩) := Lib.hid (HM1.out.below hb)
    have HB2 := Lib.hid (HB1.out.trans (hb.mono HB1.out.size))
    have Hzb : Hid (wx < W1.heap.size) := Lib.hid HM1.out.blk.lt
    have H0 := Lib.hid (WStepsTo.zero (linesL t))
    have Hz2 : Hid (wx < W2.heap.size) := Lib.hid HM2.out.blk.lt
    clear hb hown hln HX1 HI1 HM1 HB1 HLs
    go_wp2_with fail
    go_loopg [24] ln (fun gk iv wr => ∃ (i : Nat) (x : WSt) (gA : Option Addr) (gn gc : Nat) (sA : Option Addr) (sn sc : Nat) (gl : List (Glob × Value)) (ds : List SecD), iv = .int .i64 (i : Int) ∧ i + gk = ln ∧ Hid (WStepsTo (linesL t) i x) ∧ Hid (WhM wr w.heap.size wx (.slice gA gn gc) (.slice sA sn sc) gl ds x) ∧ Hid (∀ k, InWh wx (.slice gA gn gc) (.slice sA sn sc) ds k → k = wx ∨ W2.heap.size ≤ k) ∧ Hid (OutS (fun k => k = wx) W2 wr))
    case atStart => exact ⟨0, _, none, 0, 0, none, 0, 0, [], [], rfl, by omega, H0, HM2, Lib.hid (fun k hk => by
      rcases hk with h | h | h | ⟨d, h, _⟩
      · exact .inl h
      · cases h
      · cases h
      · simp at h), Lib.hid (OutS.refl _ _)⟩
    case round =>
      obtain ⟨i, x, gA, gn, gc, sA, sn, sc, gl, ds, rfl, hi, HT, HMi, HIi, HOi⟩ := hrel
      clear H0
      have HXi : Hid (Blk wr gf 24 #[.int .i64 0, .int .i64 0]) := Lib.hid ((HOi.out.block _ HX2.out.lt (fun h => by have := Hwx.out; omega)).trans HX2.out)
      have HIm : Hid (Blk wr w.heap.size 43 #[.slice none 0 0, .slice none 0 0]) := Lib.hid ((HOi.out.block _ HI2.out.lt (fun h => by have := Hwx.out; have := Hgf.out; omega)).trans HI2.out)
      have HBi : Hid (Below w.heap.size w wr) := Lib.hid (HB2.out.trans (HOi.out.below HB2.out.size fun k hk => by have := Hwx.out; have := Hgf.out; omega))
      have HSi : Hid (Std wr) := Lib.hid (HS.out.own HBi.out)
      rcases gk with _ | gk
      · obtain rfl : i = ln := by omega
        have hD := HT.out.done (by rw [Hln.out]; exact Nat.le_refl _)
        have HRp : Hid (wholeP t = imgP x) := Lib.hid (by unfold wholeP; rw [if_neg HRd.out, hD, if_neg (by simp)])
        obtain ⟨names, hnames⟩ : ∃ names, secNames x.secs = names := ⟨_, rfl⟩
        have HNm := Lib.hid hnames
        have hsl : sn = x.secs.length := by
          have h1 := HMi.out.ptrs
          have h2 := HMi.out.secs.len
          rw [List.length_map] at h2
          rcases h1.2 with ⟨e, h0⟩ | ⟨g, cap, cur, e, _⟩
          · have := (Value.slice.inj e).2.1
            omega
          · have := (Value.slice.inj e).2.1
            omega
        have Hsl := Lib.hid hsl
        obtain ⟨W4, hW4⟩ : ∃ W4, wr.alloc (.cells #[.slice gA gn gc, .slice none 0 0] 43) = W4 := ⟨_, rfl⟩
        have hb4 : Below wr.heap.size wr W4 := by rw [← hW4]; exact (Below.refl _ _).alloc (Nat.le_refl _) _
        obtain ⟨g8, hg8⟩ : ∃ g8, wr.heap.size = g8 := ⟨_, rfl⟩
        have hg8z : w.heap.size < g8 := by rw [← hg8]; exact HIm.out.lt
        have HP4 : Hid (Ph2 W4 w.heap.size wx w.heap.size gf g8 (.slice gA gn gc) (.slice sA sn sc) (.slice none 0 0) gl ds (x.secs.map entOf) []) := Lib.hid (by
          refine ⟨HMi.out.ents.below hb4, by rw [← hW4, ← hg8]; exact Blk.new _ _ _, OwnRts.nil _ _, HIm.out.below hb4 HIm.out.lt, HXi.out.below hb4 HXi.out.lt, ?_, Nat.le_of_lt hg8z⟩
          omega)
        have HB4 : Hid (Below w.heap.size w W4) := Lib.hid (HBi.out.trans (hb4.mono HBi.out.size))
        have m0 := HMi.out.blk.cell 0
        have HE0 : Hid (EsOk x names 0 (x.secs.map entOf)) := Lib.hid ⟨by rw [← hnames, List.map_map]; rfl, fun _ _ => rfl⟩
        have HW4 := Lib.hid hW4
        have Hg8e := Lib.hid hg8
        clear hD hsl hb4 hnames hW4 hg8
        go_upto_region 13 with fail
        rw [HW4.out, Hg8e.out]
        clear m0
        have Hg8 := Lib.hid hg8z
        clear hg8z
        have p1 := HP4.out.whe.blk.cell 1
        go_upto_region 14 with fail
        clear p1
        go_loopg [51] sn (fun gk iv wr => ∃ (j : Nat) (es : List SecE) (rA : Option Addr) (rn rc : Nat) (rl : List (Rout × Value)), iv = .int .i64 (j : Int) ∧ j + gk = sn ∧ Hid (Ph2 wr w.heap.size wx w.heap.size gf g8 (.slice gA gn gc) (.slice sA sn sc) (.slice rA rn rc) gl ds es rl) ∧ Hid (EsOk x names j es) ∧ Hid (rl.map (fun r => r.1) = (x.secs.take j).map (routP names)) ∧ Hid (∀ k, k < j → secBad x.secs k = 0) ∧ Hid (Below w.heap.size w wr))
        case atStart => exact ⟨0, _, none, 0, 0, [], rfl, by omega, HP4, HE0, Lib.hid rfl, Lib.hid (fun k h => absurd h (Nat.not_lt_zero k)), HB4⟩
        case round =>
          obtain ⟨j, es, rA, rn, rc, rl, rfl, hj, HP, HEs, HRl, HBd, HB⟩ := hrel
          clear HP4 HE0 HB4
          have HS2 : Hid (Std wr) := Lib.hid (HS.out.own HB.out)
          rcases gk with _ | gk
          · obtain rfl : j = sn := by omega
            have hfb := firstBad_ok (bad := secBad x.secs) (n := x.secs.length) (fun k hk => HBd.out k (by rw [Hsl.out]; exact hk))
            have hrl : rl.map (fun r => r.1) = routsP x.secs := by
              rw [HRl.out, Hsl.out, List.take_length, ← HNm.out]
              rfl
            obtain ⟨uc, huc⟩ : ∃ uc, (machF x.globs (routsP x.secs)).1 = uc := ⟨_, rfl⟩
            obtain ⟨ua, hua⟩ : ∃ ua, (machF x.globs (routsP x.secs)).2 = ua := ⟨_, rfl⟩
            have HE : Hid (wholeP t = if uc = 0 then ((x.globs, routsP x.secs), (0, 0)) else (([], []), (uc, ua))) := Lib.hid (by
              rw [HRp.out, ← huc, ← hua]
              unfold imgP
              rw [hfb, if_neg (by simp)])
            have hok := whole_ok HT.out.2 (by omega) (fun k hk => HBd.out k (by rw [Hsl.out]; exact hk))
            have HG := HP.out.whe.globs.globs
            have HR := HP.out.rts.routs
            rw [HMi.out.geq] at HG
            rw [hrl] at HR
            have HCk := Lib.hid (MCheck_any (.slice gA gn gc) (.slice rA rn rc) x.globs (routsP x.secs) wr HG HR hok.1 hok.2 HS2.out.tab)
            rw [huc, hua] at HCk
            have Hrl := Lib.hid hrl
            have x0 := HP.out.img.cell 0
            have x1 := HP.out.img.cell 1
            clear hfb hrl huc hua hok HG HR
            go_wp2_with fail
            refine HCk.out.mono ?_
            rintro e W5 ⟨rfl, hb5⟩
            have HB6 : Hid (Below w.heap.size w (W5.alloc (.cells #[.int .i64 uc, .int .i64 ua] 24))) := Lib.hid ((HB.out.trans (hb5.mono HB.out.size)).alloc (Nat.le_trans HB.out.size hb5.size) _)
            have HP6 : Hid (Ph2 (W5.alloc (.cells #[.int .i64 uc, .int .i64 ua] 24)) w.heap.size wx w.heap.size gf g8 (.slice gA gn gc) (.slice sA j sc) (.slice rA rn rc) gl ds es rl) := Lib.hid ((HP.out.below hb5).below ((Below.refl _ _).alloc (Nat.le_refl _) _))
            have HF6 : Hid (Blk (W5.alloc (.cells #[.int .i64 uc, .int .i64 ua] 24)) W5.heap.size 24 #[.int .i64 uc, .int .i64 ua]) := Lib.hid (Blk.new _ _ _)
            have hz13 : gf < W5.heap.size ∧ w.heap.size < W5.heap.size := ⟨(HP.out.below hb5).flt.lt, (HP.out.below hb5).res.lt⟩
            clear hb5 HCk x0 x1
            go_upto_region 22 with fail
            generalize W5.alloc (.cells #[.int .i64 uc, .int .i64 ua] 24) = W6 at *
            generalize W5.heap.size = g13 at *
            have n1 : ¬ g13 = gf := by omega
            have n2 : ¬ gf = g13 := by omega
            have n3 : ¬ g13 = w.heap.size := by omega
            have n4 : ¬ w.heap.size = g13 := by omega
            clear hz13
            have v0 := HF6.out.cell 0
            have v1 := HF6.out.cell 1
            have x0 := HP6.out.res.cell 0
            have x1 := HP6.out.res.cell 1
            have y0 := HP6.out.flt.cell 0
            have y1 := HP6.out.flt.cell 1
            have f0 := HP6.out.res.frozen 0
            have f1 := HP6.out.res.frozen 1
            have z0 := HP6.out.flt.frozen 0
            have z1 := HP6.out.flt.frozen 1
            by_cases h0 : uc = 0
            · subst h0
              have HE0 : Hid (wholeP t = ((x.globs, routsP x.secs), (0, 0))) := Lib.hid (by rw [HE.out, if_pos rfl])
              have i0 := HP6.out.img.cell 0
              have i1 := HP6.out.img.cell 1
              go_wp2_with fail
              refine whole_done (by rfl) (by rfl) (by rfl) HP6.out (Nat.le_refl _) (by have := Hgf.out; omega) HB6.out ?_
              rw [HE0.out, HMi.out.geq, Hrl.out]
            · have hub : (uc == 0) = false := by simpa using h0
              have HE0 : Hid (wholeP t = (([], []), (uc, ua))) := Lib.hid (by rw [HE.out, if_neg h0])
              clear h0
              go_wp2_with fail
              go_region
              all_goals
                go_wp2_with fail
                exact whole_bad (by rfl) (by rfl) (by rfl) HP6.out.res HP6.out.flt (Nat.le_refl _) (by have := Hgf.out; omega) HB6.out HE0.out ⟨rfl, rfl, rfl, rfl⟩
          · have hjl : j < sn := by omega
            have hdl : ds.length = sn := by
              have h2 := HP.out.whe.secs.len
              have h1 := HP.out.whe.ptrs
              rcases h1.2 with ⟨e, h0⟩ | ⟨g, cap, cur, e, _⟩
              · have := (Value.slice.inj e).2.1
                omega
              · have := (Value.slice.inj e).2.1
                omega
            obtain ⟨d, hd⟩ : ∃ d, ds[j]? = some d := ⟨ds[j]'(by omega), List.getElem?_eq_getElem _⟩
            obtain ⟨y, hy⟩ : ∃ y, x.secs[j]? = some y := ⟨x.secs[j]'(by rw [← Hsl.out]; exact hjl), List.getElem?_eq_getElem _⟩
            have he : es[j]? = some (entOf y) := by rw [HEs.out.2 j (Nat.le_refl _), List.getElem?_map, hy]; rfl
            have hym := List.mem_of_getElem? hy
            have hptr := HP.out.whe.ptrs
            rw [← hdl] at hptr
            obtain ⟨b, c, hbe, _, hb2, hbc⟩ := hptr.at_ hd
            have ge1 : sA = some ⟨b, 0, none⟩ := (Value.slice.inj hbe).1
            subst ge1
            have hsb : secBad x.secs j = sectP names y.st := by unfold secBad; rw [hy, HNm.out]
            have HRt := Lib.hid (routine_any wr HS2.out HP.out.whe hd he HB.out.size HS.out.big (HT.out.2.2.2.2 y hym).2 (by omega) (by rw [← HP.out.whe.secs.len, hdl]; have := HT.out.2.2.1; have := Hsl.out; omega))
            rw [HEs.out.1] at HRt
            obtain ⟨uc, huc⟩ : ∃ uc, sectP names y.st = uc := ⟨_, rfl⟩
            have hsec : SecOf wr w.heap.size d (entOf y) := HP.out.whe.secs.each j d (entOf y) hd he
            have Huc := Lib.hid huc
            have Hsb := Lib.hid hsb
            have Hd := Lib.hid hd
            have He := Lib.hid he
            have Hy := Lib.hid hy
            have Hsec := Lib.hid hsec
            have k0 : (0 : Int) ≤ (j : Int) := Int.natCast_nonneg j
            have k1 : (j : Int) < (sn : Int) := by omega
            clear hdl hd hy he hym hptr hbe hb2 hsb huc hsec
            go_wp2_with fail
            refine HRt.out.mono ?_
            rintro e W5 ⟨ho, cA, cn, cc, rfl, hrest⟩
            rw [Huc.out] at hrest ⊢
            have HO := Lib.hid ho
            have HRest := Lib.hid hrest
            have hlow : ∀ k, d.In k → w.heap.size ≤ k := fun k hk => SecM.low Hsec.out hk
            have HB5 : Hid (Below w.heap.size w W5) := Lib.hid (HB.out.trans (ho.below HB.out.size hlow))
            clear ho hrest hlow HRt
            by_cases h0 : uc = 0
            · subst h0
              obtain ⟨hown, e', hen, hse⟩ := HRest.out rfl
              have HP5 : Hid (Ph2 W5 w.heap.size wx w.heap.size gf g8 (.slice gA gn gc) (.slice (some ⟨b, 0, none⟩) sn sc) (.slice rA rn rc) gl ds (es.set j e') rl) := Lib.hid (HP.out.put Hd.out HO.out hse)
              obtain ⟨ynm, hynm⟩ : ∃ ynm, y.name = ynm := ⟨_, rfl⟩
              have hrn : rl.length = rn := by
                rcases HP.out.rts.row.2 with ⟨e, h0⟩ | ⟨g, cap, cur, e, _⟩
                · have := (Value.slice.inj e).2.1
                  omega
                · have := (Value.slice.inj e).2.1
                  omega
              have hrl : rl.length = j := by
                have := congrArg List.length HRl.out
                rw [List.length_map, List.length_map, List.length_take] at this
                have := Hsl.out
                omega
              obtain ⟨W6, hW6⟩ : ∃ W6, W5.drew = W6 := ⟨_, rfl⟩
              have HW6 := Lib.hid hW6
              have hb56 : Below W5.heap.size W5 W6 := by rw [← hW6]; exact ⟨rfl, rfl, rfl, Nat.le_refl _, fun _ _ => rfl⟩
              have hP6 := HP5.out.below hb56
              have HB6 : Hid (Below w.heap.size w W6) := Lib.hid (HB5.out.trans (hb56.mono HB5.out.size))
              have hcv : OwnB W6 w.heap.size (.slice cA cn cc) (bytesS (linked names y.st)) := (OwnB.below (own_more hown HB.out.size) hb56 rfl)
              have hsec6 : Blk W6 d.bx 56 #[.string (mkS ynm), d.cv, .map (some d.lb), d.gv, d.kv] := by
                have h1 := SecM.blk hse
                rw [hen, hynm] at h1
                exact h1.below hb56 h1.lt
              obtain ⟨B5, c5, W7, hr, hap⟩ := run_app_one (P := Tryz.prog) (w := W6) 41 41 76 _ 2 40 Tryz.underlying41 infoRt rfl (by decide) (by decide) w.heap.size _ _ _ hP6.rts.row [.string (mkS ynm), .slice cA cn cc] rfl (fun u hu => by simp at hu; rcases hu with rfl | rfl <;> rfl) (by have := HT.out.2.2.1; have := Hsl.out; omega) HB6.out.size
              have hadd := hP6.addRout (nm := mkS ynm) (code := bytesS (linked names y.st)) hap hcv
              have hbx := hap.blk hP6.rts.row hP6.img (by decide)
              have hbs := hap.blk hP6.rts.row hsec6 (by decide)
              rw [hrn] at hr hadd
              have HAdd := Lib.hid hadd
              have Hr := Lib.hid hr
              have HF : Hid (∀ w', w' = W6 ∨ w' = W6.alloc (.cells #[.string (mkS ynm), .slice cA cn cc] 76) ∨ w' = W7 → w'.cell? ⟨g8, 1, none⟩ = some (.slice rA rn rc) ∧ w'.cell? ⟨d.bx, 0, none⟩ = some (.string (mkS ynm))) := Lib.hid (by
                rintro w' (rfl | rfl | rfl)
                · exact ⟨hP6.img.cell 1, hsec6.cell 0⟩
                · exact ⟨(hP6.img.alloc _).cell 1, (hsec6.alloc _).cell 0⟩
                · exact ⟨hbx.cell 1, hbs.cell 0⟩)
              have e1 := hbx.cell 1
              have f1 := hbx.frozen 1
              simp only [List.getElem?_toArray, List.getElem?_cons_succ, List.getElem?_cons_zero] at e1
              have HEs2 : Hid (EsOk x names (j + 1) (es.set j e')) := Lib.hid ⟨(names_set He.out hen).trans HEs.out.1, fun k hk => by rw [List.getElem?_set_ne (by omega)]; exact HEs.out.2 k (by omega)⟩
              have HRl2 : Hid ((rl ++ [((⟨mkS ynm, bytesS (linked names y.st)⟩ : Rout), Value.slice cA cn cc)]).map (fun r => r.1) = (x.secs.take (j + 1)).map (routP names)) := Lib.hid (by
                rw [List.map_append, HRl.out, List.take_add_one, Hy.out, List.map_append, ← hynm]
                rfl)
              have HBd2 : Hid (∀ k, k < j + 1 → secBad x.secs k = 0) := Lib.hid fun k hk => by
                rcases Nat.lt_or_ge k j with h | h
                · exact HBd.out k h
                · obtain rfl : k = j := by omega
                  rw [Hsb.out, Huc.out]
              have HB7 : Hid (Below w.heap.size w (W7.setCell ⟨g8, 1, none⟩ (.slice B5 (rn + 1) c5))) := Lib.hid (HB6.out.trans HAdd.out.2)
              have hjm : j ≤ 1000000 := by have := HT.out.2.2.1; have := Hsl.out; omega
              clear hown hen hse hynm hrn hrl hW6 hb56 hP6 hcv hsec6 hr hap hadd hbx hbs
              go_wp2_with fail
              refine wp_region_lex (Three W6 (W6.alloc (.cells #[.string (mkS ynm), .slice cA cn cc] 76)) W7 (W7.setCell ⟨g8, 1, none⟩ (.slice B5 (rn + 1) c5)) 8 9 11 10) (by kernel_rfl) (by kernel_rfl) (by have h : ({ W5 with drawn := W5.drawn + 1 } : World) = W6 := HW6.out; rw [h]; exact Three.start) ?_
              iterate 8
                apply wpLex_step
                · rfl
                · intro L w' hC hL hd
                  clear hd
                  have F := HF.out w' (hC.pend hL (by decide))
                  have HC := Lib.hid hC
                  clear hC
                  go_simp
                  exact ⟨HC.out.keep _ (by decide) (by decide) (by decide), rfl⟩
                simp only [Act.put, List.setIfInBounds_toArray, List.set_cons_succ, List.set_cons_zero, Nat.reduceAdd]
              apply wpLex_step
              · rfl
              · intro L w' hC hL hd
                obtain ⟨hw, hC2⟩ := hC.at1 hL (by decide) (by decide) (by decide)
                subst hw
                have HC2 := Lib.hid hC2
                clear hd hC hL hC2
                go_simp
                exact ⟨HC2.out, rfl⟩
              simp only [Act.put, List.setIfInBounds_toArray, List.set_cons_succ, List.set_cons_zero, Nat.reduceAdd]
              apply wpLex_step
              · rfl
              · intro L w' hC hL hd
                obtain ⟨hw, hC2⟩ := hC.at2 hL (hd ⟨8, .data⟩ (by simp) rfl) (by decide) (by decide)
                subst hw
                rw [exec_app (.tmp 69) (.tmp 76) 41 41 rfl _ _ _ _ rfl rfl Hr.out]
                exact ⟨hC2, rfl⟩
              simp only [Act.put, List.setIfInBounds_toArray, List.set_cons_succ, List.set_cons_zero, Nat.reduceAdd]
              apply wpLex_step
              · rfl
              · intro L w' hC hL hd
                clear hd
                have HC := Lib.hid hC
                clear hC
                go_simp
                exact ⟨HC.out.keep _ (by decide) (by decide) (by decide), rfl⟩
              simp only [Act.put, List.setIfInBounds_toArray, List.set_cons_succ, List.set_cons_zero, Nat.reduceAdd]
              apply wpLex_step
              · rfl
              · intro L w' hC hL hd
                obtain ⟨hw, hC2⟩ := hC.at3 hL (cover (m := 10) (by kernel_rfl) hd) (by decide) (by decide)
                subst hw
                have HC2 := Lib.hid hC2
                clear hd hC hL hC2
                go_simp
                exact ⟨HC2.out, rfl⟩
              simp only [Act.put, Nat.reduceAdd]
              apply wpLex_nil
              intro L w' hC hd
              obtain rfl := hC.end_ (hd 11 (by decide))
              clear hC hd
              go_wp2_with fail
              go_roundg gk
              case measure => omega
              case rel => exact ⟨j + 1, _, B5, _, c5, _, by go_num, by omega, Lib.hid HAdd.out.1, HEs2, HRl2, HBd2, HB7⟩
            · have hub : (uc == 0) = false := by simpa using h0
              have HE : Hid (wholeP t = (([], []), (uc, (j : Int)))) := Lib.hid (by
                have hfb := firstBad_hit (bad := secBad x.secs) (n := x.secs.length) (k := j) (by rw [← Hsl.out]; exact hjl) (by rw [Hsb.out, Huc.out]; exact h0) HBd.out
                rw [HRp.out]
                unfold imgP
                rw [hfb, Hsb.out, Huc.out, if_pos h0])
              have HI3 : Hid (Blk W5 w.heap.size 43 #[.slice none 0 0, .slice none 0 0]) := Lib.hid ((HO.out.block _ HP.out.res.lt (Hsec.out.blk HP.out.res (by decide) (by decide) (by decide))).trans HP.out.res)
              have HX3 : Hid (Blk W5 gf 24 #[.int .i64 0, .int .i64 0]) := Lib.hid ((HO.out.block _ HP.out.flt.lt (Hsec.out.blk HP.out.flt (by decide) (by decide) (by decide))).trans HP.out.flt)
              have x0 := HI3.out.cell 0
              have x1 := HI3.out.cell 1
              have y0 := HX3.out.cell 0
              have y1 := HX3.out.cell 1
              have f0 := HI3.out.frozen 0
              have f1 := HI3.out.frozen 1
              have z0 := HX3.out.frozen 0
              have z1 := HX3.out.frozen 1
              clear h0
              go_wp2_with fail
              exact whole_bad (by rfl) (by rfl) (by rfl) HI3.out HX3.out (Nat.le_refl _) (by have := Hgf.out; omega) HB5.out HE.out (SameMem.refl _)
      · have hil : i < ln := by omega
        obtain ⟨l, hl⟩ : ∃ l, (linesL t)[i]? = some l := ⟨(linesL t)[i]'(by rw [Hln.out]; exact hil), List.getElem?_eq_getElem _⟩
        obtain ⟨b, c, hbe, hb1, hb2, hbc⟩ := (show OwnS W2 W1.heap.size (.slice lA (linesL t).length lc) (linesL t) from by rw [Hln.out]; exact HOwn.out).at_ hl
        have ge1 : lA = some ⟨b, 0, none⟩ := (Value.slice.inj hbe).1
        subst ge1
        have hbc' : wr.cell? ⟨b, i, none⟩ = some (.string (mkS l)) := by
          have h : wr.heap[b]? = W2.heap[b]? := HOi.out.block b hb2 (fun h => by have := Hzb.out; omega)
          unfold World.cell? at hbc ⊢
          rw [h]
          exact hbc
        have hlz : l.length ≤ 900000 := Nat.le_trans (lines_size (List.mem_of_getElem? hl)) (by rw [Hn.out]; omega)
        obtain ⟨n1, n2, n3⟩ := HT.out.next hl hlz
        have HN := Lib.hid (And.intro n1 (And.intro n2 n3))
        have Hl := Lib.hid hl
        have Hlz := Lib.hid hlz
        have k0 : (0 : Int) ≤ (i : Int) := Int.natCast_nonneg i
        have k1 : (i : Int) < (ln : Int) := by omega
        have hcell := hbc'
        clear hl hbe hb1 hb2 hbc hbc' n1 n2 n3 hlz
        by_cases hnil : l = []
        · subst hnil
          have HTn := Lib.hid (HN.out.1 rfl)
          rw [show mkS [] = ⟨#[]⟩ from rfl] at hcell
          go_wp2_with fail
          go_roundg gk
          case measure => omega
          case rel => exact ⟨i + 1, x, gA, gn, gc, sA, sn, sc, gl, ds, by go_num, by omega, HTn, HMi, HIi, HOi⟩
        · have hmem := List.mem_of_getElem? Hl.out
          have HLn := Lib.hid (wline_any l Hlz.out (lines_ok hmem hnil) wr HSi.out HMi.out HBi.out.size HT.out.2 (by omega))
          have q1 : (mkS l).toList.isEmpty = false := by rw [mkS_toList]; cases l with | nil => exact absurd rfl hnil | cons a l => rfl
          have q2 : ¬ (mkS l).toList = [] := by rw [mkS_toList]; exact hnil
          have q3 : ((mkS l).toList == []) = false := beq_false_of_ne q2
          obtain ⟨rc, hrc⟩ : ∃ rc, (wlineP x l).1 = rc := ⟨_, rfl⟩
          have Hrc := Lib.hid hrc
          have Hnil := Lib.hid hnil
          clear hmem hnil hrc
          go_wp2_with fail
          refine HLn.out.mono ?_
          rintro e W3 ⟨rfl, ho, hsec⟩
          rw [Hrc.out] at hsec ⊢
          have HO3 := Lib.hid ho
          have HS3 := Lib.hid hsec
          clear ho hsec HLn q1 q2 q3
          by_cases h0 : rc = 0
          · subst h0
            have HTn := Lib.hid (HN.out.2.1 Hnil.out Hrc.out)
            obtain ⟨gv', sv', gl', ds', hm3, hk3⟩ := HS3.out rfl
            obtain ⟨gA', gc', hgv⟩ := row_form hm3.globs.row
            obtain ⟨sA', sc', hsv⟩ := row_form hm3.ptrs
            subst hgv hsv
            have HM3 := Lib.hid hm3
            have HK3 := Lib.hid hk3
            clear hm3 hk3
            go_wp2_with fail
            go_roundg gk
            case measure => omega
            case rel => exact ⟨i + 1, _, gA', _, gc', sA', _, sc', gl', ds', by go_num, by omega, HTn, HM3, Lib.hid (fun k hk => (HK3.out k hk).elim (HIi.out k) fun h => .inr (Nat.le_trans HOi.out.size h)), Lib.hid (HOi.out.trans HO3.out fun k hk h => (HIi.out k h).elim id fun h => by omega)⟩
          · have hub : (rc == 0) = false := by simpa using h0
            have hst := HN.out.2.2 Hnil.out (by rw [Hrc.out]; exact h0)
            have HE : Hid (wholeP t = (([], []), (rc, (i : Int)))) := Lib.hid (by
              unfold wholeP
              rw [if_neg HRd.out, hst, if_pos (by show ¬ _ = 0; rw [Hrc.out]; exact h0), Hrc.out])
            have hng : ∀ k, k ≠ wx → k < W2.heap.size → ¬ InWh wx (.slice gA gn gc) (.slice sA sn sc) ds k := fun k h1 h2 h => by
              rcases HIi.out _ h with h | h <;> omega
            have HX3 : Hid (Blk W3 gf 24 #[.int .i64 0, .int .i64 0]) := Lib.hid ((HO3.out.block _ HXi.out.lt (hng _ (by have := Hwx.out; omega) HX2.out.lt)).trans HXi.out)
            have HI3 : Hid (Blk W3 w.heap.size 43 #[.slice none 0 0, .slice none 0 0]) := Lib.hid ((HO3.out.block _ HIm.out.lt (hng _ (by have := Hwx.out; have := Hgf.out; omega) HI2.out.lt)).trans HIm.out)
            have HB3 : Hid (Below w.heap.size w W3) := Lib.hid (HBi.out.trans (HO3.out.below HBi.out.size fun k hk => HMi.out.low hk))
            have x0 := HI3.out.cell 0
            have x1 := HI3.out.cell 1
            have y0 := HX3.out.cell 0
            have y1 := HX3.out.cell 1
            have f0 := HI3.out.frozen 0
            have f1 := HI3.out.frozen 1
            have z0 := HX3.out.frozen 0
            have z1 := HX3.out.frozen 1
            clear h0 hst hng
            go_wp2_with fail
            exact whole_bad (by rfl) (by rfl) (by rfl) HI3.out HX3.out (Nat.le_refl _) (by have := Hgf.out; omega) HB3.out HE.out (SameMem.refl _)
end Go.Proofs.YtdldochhondifaaGreatDoor
namespace Go.Proofs.YtdldochhondifaaGreatDoor
open Go.RowKit
attribute [local go_sem] Oper.semAt_some

set_option maxRecDepth 100000 in
set_option maxHeartbeats 4000000 in
theorem SameGlobals_same (v1 v2 : Value) (gs : List Glob) (w : World) (h1 : GlobsAt w w.heap.size v1 gs) (h2 : GlobsAt w w.heap.size v2 gs) :
    Calls Tryz.prog 43 #[v1, v2] w fun e w' => e = .returned (.bool true) ∧ Below w.heap.size w w' := by
  have H1 := Lib.hid h1
  have H2 := Lib.hid h2
  obtain ⟨A1, c1, rfl, hc1, hm1, _⟩ := h1
  obtain ⟨A2, c2, rfl, hc2, hm2, _⟩ := h2
  obtain ⟨n, hn⟩ : ∃ n, gs.length = n := ⟨_, rfl⟩
  have Hn := Lib.hid hn
  rw [hn] at hc1 hc2 ⊢
  clear hn
  go_enter Tryz.func43, Tryz.ntmps43
  go_wp2_with fail
  go_loopg [5] n (fun gk iv wx => ∃ k : Nat, iv = .int .i64 (k : Int) ∧ k + gk = n ∧ Hid (Below w.heap.size w wx))
  case atStart => exact ⟨0, rfl, by omega, Lib.hid (Below.refl _ _)⟩
  case round =>
    obtain ⟨k, rfl, hk, HB⟩ := hrel
    rcases gk with _ | gk
    · obtain rfl : k = n := by omega
      go_wp2_with fail
      go_ret
      exact ⟨rfl, HB.out⟩
    · have hkn : k < n := by omega
      obtain ⟨⟨gn, gz, gi⟩, hg⟩ : ∃ g, gs[k]? = some g := ⟨gs[k]'(by rw [Hn.out]; exact hkn), List.getElem?_eq_getElem _⟩
      obtain ⟨A1', c1', e1, _, _, h1⟩ := H1.out
      obtain ⟨b1, o1, hA1, hb1, hx1⟩ := h1 (by rw [Hn.out]; omega)
      obtain ⟨A2', c2', e2, _, _, h2⟩ := H2.out
      obtain ⟨b2, o2, hA2, hb2, hx2⟩ := h2 (by rw [Hn.out]; omega)
      have e1' := (Value.slice.inj e1).1
      have e2' := (Value.slice.inj e2).1
      rw [hA1] at e1'
      rw [hA2] at e2'
      subst e1' e2'
      obtain ⟨i1, p0, p1, p2, hi1⟩ := hx1 k _ hg
      obtain ⟨i2, q0, q1, q2, hi2⟩ := hx2 k _ hg
      obtain ⟨D1, d1, rfl, hd1, hdm1, hy1⟩ := hi1
      obtain ⟨D2, d2, rfl, hd2, hdm2, hy2⟩ := hi2
      obtain ⟨m, hm⟩ : ∃ m, gi.length = m := ⟨_, rfl⟩
      have Hm := Lib.hid hm
      have Hy1 := Lib.hid hy1
      have Hy2 := Lib.hid hy2
      simp only at p0 p1 p2 q0 q1 q2 hd1 hd2
      rw [hm] at hd1 hd2 p2 q2
      have P2 := Lib.hid p2
      have Q2 := Lib.hid q2
      have p0 := (bcell HB.out hb1).trans p0
      have p1 := (bcell HB.out hb1).trans p1
      have p2 := (bcell HB.out hb1).trans p2
      have q0 := (bcell HB.out hb2).trans q0
      have q1 := (bcell HB.out hb2).trans q1
      have q2 := (bcell HB.out hb2).trans q2
      have Hb := Lib.hid (And.intro hb1 hb2)
      have k0 : (0 : Int) ≤ (k : Int) := Int.natCast_nonneg k
      have k1 : (k : Int) < (n : Int) := by omega
      clear hg e1 e2 h1 h2 hA1 hA2 hx1 hx2 hy1 hy2 hm hb1 hb2
      go_upto_region 6 with fail
      go_quiet (fail)
      have HBq : Hid (Below w.heap.size w (wr.drewN nq)) := Lib.hid (HB.out.trans (below_drewn wr nq w.heap.size))
      generalize wr.drewN nq = Wq at *
      generalize gk = go at *
      clear p0 p1 p2 q0 q1 q2 HB
      clear wr
      go_upto_region 9 with fail
      go_loopg [6] m (fun gk iv wx => ∃ j : Nat, iv = .int .i64 (j : Int) ∧ j + gk = m ∧ Hid (Below w.heap.size w wx))
      case atStart => exact ⟨0, rfl, by omega, HBq⟩
      case round =>
        obtain ⟨j, rfl, hj, HB⟩ := hrel
        have p2 := (bcell HB.out Hb.out.1).trans P2.out
        have q2 := (bcell HB.out Hb.out.2).trans Q2.out
        clear HBq
        rcases gk with _ | gk
        · obtain rfl : j = m := by omega
          go_wp2_with fail
          go_roundg go
          case measure => omega
          case rel => exact ⟨k + 1, by go_num, by omega, HB⟩
        · have hjm : j < m := by omega
          obtain ⟨x, hx⟩ : ∃ x, gi[j]? = some x := ⟨gi[j]'(by rw [Hm.out]; exact hjm), List.getElem?_eq_getElem _⟩
          obtain ⟨g1, o3, rfl, hg1, hz1⟩ := Hy1.out (by rw [Hm.out]; omega)
          obtain ⟨g2, o4, rfl, hg2, hz2⟩ := Hy2.out (by rw [Hm.out]; omega)
          have r1 := (bcell HB.out hg1).trans (hz1 j x hx)
          have r2 := (bcell HB.out hg2).trans (hz2 j x hx)
          have j0 : (0 : Int) ≤ (j : Int) := Int.natCast_nonneg j
          have j1 : (j : Int) < (m : Int) := by omega
          clear hx hg1 hg2 hz1 hz2
          go_upto_region 11 with fail
          go_quiet (fail)
          have HB3 : Hid (Below w.heap.size w (wr.drewN nq)) := Lib.hid (HB.out.trans (below_drewn wr nq w.heap.size))
          generalize wr.drewN nq = W3 at *
          go_wp2_with fail
          go_roundg gk
          case measure => omega
          case rel => exact ⟨j + 1, by go_num, by omega, HB3⟩
set_option maxRecDepth 100000 in
set_option maxHeartbeats 4000000 in
theorem SameImage_same (g1 r1 g2 r2 : Value) (gs : List Glob) (rs : List Rout) (w : World) (h1 : GlobsAt w w.heap.size g1 gs) (h2 : RoutsAt w w.heap.size r1 rs) (h3 : GlobsAt w w.heap.size g2 gs) (h4 : RoutsAt w w.heap.size r2 rs) :
    Calls Tryz.prog 19 #[.agg #[g1, r1], .agg #[g2, r2]] w fun e w' => e = .returned (.bool true) ∧ Below w.heap.size w w' := by
  have H1 := Lib.hid h1
  have H2 := Lib.hid h2
  have H3 := Lib.hid h3
  have H4 := Lib.hid h4
  obtain ⟨gn, hgn⟩ : ∃ gn, gs.length = gn := ⟨_, rfl⟩
  obtain ⟨rn, hrn⟩ : ∃ rn, rs.length = rn := ⟨_, rfl⟩
  have Hrn := Lib.hid hrn
  obtain ⟨A1, c1, rfl, hc1, hm1⟩ := (show ∃ A c, g1 = .slice A gn c ∧ gn ≤ c ∧ c ≤ 9223372036854775807 from by obtain ⟨A, c, e, a, b, _⟩ := h1; rw [hgn] at e a; exact ⟨A, c, e, a, b⟩)
  obtain ⟨A2, c2, rfl, hc2, hm2⟩ := (show ∃ A c, g2 = .slice A gn c ∧ gn ≤ c ∧ c ≤ 9223372036854775807 from by obtain ⟨A, c, e, a, b, _⟩ := h3; rw [hgn] at e a; exact ⟨A, c, e, a, b⟩)
  obtain ⟨A3, c3, rfl, hc3, hm3⟩ := (show ∃ A c, r1 = .slice A rn c ∧ rn ≤ c ∧ c ≤ 9223372036854775807 from by obtain ⟨A, c, e, a, b, _⟩ := h2; rw [hrn] at e a; exact ⟨A, c, e, a, b⟩)
  obtain ⟨A4, c4, rfl, hc4, hm4⟩ := (show ∃ A c, r2 = .slice A rn c ∧ rn ≤ c ∧ c ≤ 9223372036854775807 from by obtain ⟨A, c, e, a, b, _⟩ := h4; rw [hrn] at e a; exact ⟨A, c, e, a, b⟩)
  clear h1 h2 h3 h4 hgn hrn
  obtain ⟨W0, hW0⟩ : ∃ W0, (w.alloc (.cells #[.slice A1 gn c1, .slice A3 rn c3] 43)).alloc (.cells #[.slice A2 gn c2, .slice A4 rn c4] 43) = W0 := ⟨_, rfl⟩
  obtain ⟨q, hq⟩ : ∃ q, w.heap.size + 1 = q := ⟨_, rfl⟩
  have hb0 : Below w.heap.size w W0 := by rw [← hW0]; exact ((Below.refl _ _).alloc (Nat.le_refl _) _).alloc (by simp) _
  have HP0 : Hid (Blk W0 w.heap.size 43 #[.slice A1 gn c1, .slice A3 rn c3]) := Lib.hid (by rw [← hW0]; exact (Blk.new w _ _).alloc _)
  have HQ0 : Hid (Blk W0 q 43 #[.slice A2 gn c2, .slice A4 rn c4]) := Lib.hid (by
    have h := Blk.new (w.alloc (.cells #[.slice A1 gn c1, .slice A3 rn c3] 43)) 43 #[.slice A2 gn c2, .slice A4 rn c4]
    rw [hW0] at h
    simp only [World.size_alloc] at h
    rw [← hq]
    exact h)
  have HSg := Lib.hid (SameGlobals_same (.slice A1 gn c1) (.slice A2 gn c2) gs W0 ((H1.out.below hb0 (Nat.le_refl _)).more hb0.size) ((H3.out.below hb0 (Nat.le_refl _)).more hb0.size))
  have HB0 := Lib.hid hb0
  clear hb0
  go_enter Tryz.func19, Tryz.ntmps19
  go_upto_region 1 with fail
  clear hW0 hq
  have a0 := HP0.out.cell 0
  have a1 := HP0.out.cell 1
  have b0 := HQ0.out.cell 0
  have b1 := HQ0.out.cell 1
  go_wp2_with fail
  refine HSg.out.mono ?_
  rintro e W1 ⟨rfl, hb1⟩
  have HP1 := Lib.hid (HP0.out.below hb1 HP0.out.lt)
  have HQ1 := Lib.hid (HQ0.out.below hb1 HQ0.out.lt)
  have HB1 := Lib.hid (HB0.out.trans (hb1.mono HB0.out.size))
  have Hpq : Hid (w.heap.size < W1.heap.size ∧ q < W1.heap.size) := Lib.hid ⟨HP1.out.lt, HQ1.out.lt⟩
  clear hb1 HSg a0 a1 b0 b1
  have a1 := HP1.out.cell 1
  have b1 := HQ1.out.cell 1
  go_upto_region 4 with fail
  clear a1 b1
  go_loopg [5] rn (fun gk iv wx => ∃ k : Nat, iv = .int .i64 (k : Int) ∧ k + gk = rn ∧ Hid (Below W1.heap.size W1 wx))
  case atStart => exact ⟨0, rfl, by omega, Lib.hid (Below.refl _ _)⟩
  case round =>
    obtain ⟨k, rfl, hk, HB⟩ := hrel
    have HBw : Hid (Below w.heap.size w wr) := Lib.hid (HB1.out.trans (HB.out.mono HB1.out.size))
    have a1 := (HP1.out.below HB.out Hpq.out.1).cell 1
    have b1 := (HQ1.out.below HB.out Hpq.out.2).cell 1
    rcases gk with _ | gk
    · obtain rfl : k = rn := by omega
      go_wp2_with fail
      go_ret
      exact ⟨rfl, HBw.out⟩
    · have hkn : k < rn := by omega
      obtain ⟨⟨nm, cd⟩, hg⟩ : ∃ r, rs[k]? = some r := ⟨rs[k]'(by rw [Hrn.out]; exact hkn), List.getElem?_eq_getElem _⟩
      obtain ⟨A1', c1', e1, _, _, h1⟩ := H2.out
      obtain ⟨d1, o1, hA1, hd1, hx1⟩ := h1 (by rw [Hrn.out]; omega)
      obtain ⟨A2', c2', e2, _, _, h2⟩ := H4.out
      obtain ⟨d2, o2, hA2, hd2, hx2⟩ := h2 (by rw [Hrn.out]; omega)
      have e1' := (Value.slice.inj e1).1
      have e2' := (Value.slice.inj e2).1
      rw [hA1] at e1'
      rw [hA2] at e2'
      subst e1' e2'
      obtain ⟨i1, p0, p1, hi1⟩ := hx1 k _ hg
      obtain ⟨i2, q0, q1, hi2⟩ := hx2 k _ hg
      simp only at p0 p1 q0 q1 hi1 hi2
      have p0 := (bcell HBw.out hd1).trans p0
      have p1 := (bcell HBw.out hd1).trans p1
      have q0 := (bcell HBw.out hd2).trans q0
      have q1 := (bcell HBw.out hd2).trans q1
      have hx1 := fun n => conv_bytes (w := wr.drewN n) (B := w.heap.size) (hi1.below (HBw.out.trans (below_drewn wr n _)) (Nat.le_refl _))
      have hx2 := fun n => conv_bytes (w := wr.drewN n) (B := w.heap.size) (hi2.below (HBw.out.trans (below_drewn wr n _)) (Nat.le_refl _))
      have hx3 := conv_bytes (hi1.below HBw.out (Nat.le_refl _))
      have hx4 := conv_bytes (hi2.below HBw.out (Nat.le_refl _))
      obtain ⟨sb, hsb⟩ : ∃ sb, strOfNums cd = sb := ⟨_, rfl⟩
      rw [hsb] at hx3 hx4
      simp only [hsb] at hx1 hx2
      have k0 : (0 : Int) ≤ (k : Int) := Int.natCast_nonneg k
      have k1 : (k : Int) < (rn : Int) := by omega
      clear hg e1 e2 h1 h2 hA1 hA2 hd1 hd2 hi1 hi2 hsb
      go_upto_region 6 with fail
      go_quiet (fail)
      have HBq : Hid (Below W1.heap.size W1 (wr.drewN nq)) := Lib.hid (HB.out.trans (below_drewn wr nq _))
      generalize wr.drewN nq = Wq at *
      clear p0 p1 q0 q1 hx1 hx2 hx3 hx4 a1 b1
      go_wp2_with fail
      go_roundg gk
      case measure => omega
      case rel => exact ⟨k + 1, by go_num, by omega, HBq⟩
end Go.Proofs.YtdldochhondifaaGreatDoor
