/-
  Texts of the claim AsmWholeSays (AxG): what each proves stands at its theorems.
  Conditions: as the theorems say.
-/
import Derived.Test.YtdldochhondifaaGreatDoorVAxR
import Derived.Test.YtdldochhondifaaGreatDoorVAwI
namespace Go.Proofs.YtdldochhondifaaGreatDoor
open Go.RowKit
attribute [local go_sem] Oper.semAt_some

theorem addr_add (b j : Nat) : (⟨b, 0, none⟩ : Addr).add j = ⟨b, j, none⟩ := by unfold Addr.add; split <;> simp_all
/-- An end with a fault, or with nothing read. -/
theorem rwhole_bad {a : Act} {w W W' : World} {gi gf : Nat} {x0 x1 y0 y1 : Value} {r : (List Glob × List Rout) × (Int × Int)} {c p : Int} (h2 : a.tmps.getD 2 undef = .pointer (some ⟨gi, 0, none⟩)) (h3 : a.tmps.getD 3 undef = .pointer (some ⟨gf, 0, none⟩)) (hdf : a.defers = [])
    (hi : Blk W gi 43 #[x0, x1]) (hf : Blk W gf 24 #[y0, y1]) (hgi : w.heap.size ≤ gi) (hgf : w.heap.size ≤ gf) (hb : Below w.heap.size w W) (hr : r = (([], []), (c, p)))
    (hW : SameMem ((((W.setCell ⟨gi, 0, none⟩ (.slice none 0 0)).setCell ⟨gi, 1, none⟩ (.slice none 0 0)).setCell ⟨gf, 0, none⟩ (.int .i64 c)).setCell ⟨gf, 1, none⟩ (.int .i64 p)) W') :
    bodyPost Tryz.prog Tryz.f18 (fun e w' => WholePost r e w' ∧ Below w.heap.size w w') .ret a W' := by
  have hne : gi ≠ gf := fun e => by subst e; exact absurd (blk_ty hi hf) (by decide)
  obtain ⟨b1, b2⟩ := two_cells hi hf hne (.slice none 0 0) (.slice none 0 0) (.int .i64 c) (.int .i64 p)
  have c1 : Blk W' gi 43 #[.slice none 0 0, .slice none 0 0] := by unfold Blk at b1 ⊢; rw [hW.heap]; exact b1
  have c2 : Blk W' gf 24 #[.int .i64 c, .int .i64 p] := by unfold Blk at b2 ⊢; rw [hW.heap]; exact b2
  refine end_cell2w rfl h2 c1 Tryz.underlying43 rfl (by kernel_rfl) h3 c2 Tryz.underlying24 rfl (by kernel_rfl) hdf ⟨⟨none, 0, 0, none, 0, 0, by rw [hr], ?_, ?_⟩, hW.below ((((hb.setCell hgi _).setCell hgi _).setCell hgf _).setCell hgf _)⟩
  · rw [hr]; exact globs_nil _ _
  · rw [hr]; exact routs_nil _ _
/-- The end with an image. -/
theorem rwhole_done {a : Act} {w W : World} {wx gi gf : Nat} {gA sA rA : Option Addr} {gn gc sn sc rn rc : Nat} {gl : List (Glob × Value)} {ds : List PcD} {es : List PcE} {rl : List (Rout × Value)} {r : (List Glob × List Rout) × (Int × Int)} (h2 : a.tmps.getD 2 undef = .pointer (some ⟨gi, 0, none⟩)) (h3 : a.tmps.getD 3 undef = .pointer (some ⟨gf, 0, none⟩)) (hdf : a.defers = [])
    (h : PWh W w.heap.size wx gi gf (.slice gA gn gc) (.slice sA sn sc) (.slice rA rn rc) gl ds es rl) (hgi : w.heap.size ≤ gi) (hgf : w.heap.size ≤ gf) (hb : Below w.heap.size w W) (hr : r = ((gl.map (fun g => g.1), rl.map (fun r => r.1)), (0, 0))) :
    bodyPost Tryz.prog Tryz.f18 (fun e w' => WholePost r e w' ∧ Below w.heap.size w w') .ret a ((((W.setCell ⟨gi, 0, none⟩ (.slice gA gn gc)).setCell ⟨gi, 1, none⟩ (.slice rA rn rc)).setCell ⟨gf, 0, none⟩ (.int .i64 0)).setCell ⟨gf, 1, none⟩ (.int .i64 0)) := by
  have hne : gi ≠ gf := fun e => by have h1 := h.flt; rw [← e] at h1; exact absurd (blk_ty h.res h1) (by decide)
  obtain ⟨b1, b2⟩ := two_cells h.res h.flt hne (.slice gA gn gc) (.slice rA rn rc) (.int .i64 0) (.int .i64 0)
  have hst : ∀ k, k ≠ gi → k ≠ gf → ((((W.setCell ⟨gi, 0, none⟩ (.slice gA gn gc)).setCell ⟨gi, 1, none⟩ (.slice rA rn rc)).setCell ⟨gf, 0, none⟩ (.int .i64 0)).setCell ⟨gf, 1, none⟩ (.int .i64 0)).heap[k]? = W.heap[k]? := fun k e1 e2 =>
    (Below.heap_setCell _ ⟨gf, 1, none⟩ _ k e2).trans ((Below.heap_setCell _ ⟨gf, 0, none⟩ _ k e2).trans ((Below.heap_setCell _ ⟨gi, 1, none⟩ _ k e1).trans (Below.heap_setCell _ ⟨gi, 0, none⟩ _ k e1)))
  have hrow : ∀ {b s n : Nat} {t : TypeId} {v : Value} {xs : List Value}, W.ownsRow b t s v n xs → t ≠ 43 → t ≠ 24 → ((((W.setCell ⟨gi, 0, none⟩ (.slice gA gn gc)).setCell ⟨gi, 1, none⟩ (.slice rA rn rc)).setCell ⟨gf, 0, none⟩ (.int .i64 0)).setCell ⟨gf, 1, none⟩ (.int .i64 0)).ownsRow b t s v n xs := fun hv h1 h2 =>
    own_at hv fun k e => hst k (by rintro rfl; exact ownBlk_ne hv h.res h1 e) (by rintro rfl; exact ownBlk_ne hv h.flt h2 e)
  refine end_cell2w rfl h2 b1 Tryz.underlying43 rfl (by kernel_rfl) h3 b2 Tryz.underlying24 rfl (by kernel_rfl) hdf ⟨⟨gA, gn, gc, rA, rn, rc, by rw [hr], ?_, ?_⟩, (((hb.setCell hgi _).setCell hgi _).setCell hgf _).setCell hgf _⟩
  · rw [hr]
    exact OwnGl.globs ⟨hrow h.globs.row (by decide) (by decide), fun g hg => hrow (h.globs.inits g hg) (by decide) (by decide)⟩
  · rw [hr]
    exact OwnRts.routs ⟨hrow h.rts.row (by decide) (by decide), fun g hg => hrow (h.rts.codes g hg) (by decide) (by decide)⟩
set_option maxRecDepth 100000 in
set_option maxHeartbeats 8000000 in
theorem RWhole_any (t : List UInt8) (ht : t.length ≤ 9223372036854775807) (w : World) :
    Calls Tryz.prog 18 #[.string (mkS t)] w fun e w' => WholePost (wholeP t) e w' ∧ Below w.heap.size w w' := by
  obtain ⟨n, hn⟩ : ∃ n, t.length = n := ⟨_, rfl⟩
  have hz : (mkS t).size = n := by rw [mkS_size, hn]
  have Hn := Lib.hid hn
  obtain ⟨W0, hW0⟩ : ∃ W0, (w.alloc (.cells #[.slice none 0 0, .slice none 0 0] 43)).alloc (.cells #[.int .i64 0, .int .i64 0] 24) = W0 := ⟨_, rfl⟩
  obtain ⟨gf, hgf⟩ : ∃ gf, w.heap.size + 1 = gf := ⟨_, rfl⟩
  have HB0 : Hid (Below w.heap.size w W0) := Lib.hid (by rw [← hW0]; exact ((Below.refl _ _).alloc (Nat.le_refl _) _).alloc (by simp) _)
  have HI0 : Hid (Blk W0 w.heap.size 43 #[.slice none 0 0, .slice none 0 0]) := Lib.hid (by rw [← hW0]; exact (Blk.new w _ _).alloc _)
  have HX0 : Hid (Blk W0 gf 24 #[.int .i64 0, .int .i64 0]) := Lib.hid (by
    have h := Blk.new (w.alloc (.cells #[.slice none 0 0, .slice none 0 0] 43)) 24 #[.int .i64 0, .int .i64 0]
    rw [hW0] at h
    simp only [World.size_alloc] at h
    rw [← hgf]
    exact h)
  rw [hn] at ht
  clear hn
  go_enter Tryz.func18, Tryz.ntmps18
  go_upto_region 1 with fail
  have Hgf := Lib.hid hgf
  have ne1 : ¬ w.heap.size = gf := by omega
  have ne2 : ¬ gf = w.heap.size := by omega
  clear hW0 hgf
  by_cases h8 : 80000 < n
  · have h8' : (n : Int) > 80000 := by omega
    have HE : Hid (wholeP t = (([], []), (2, 0))) := Lib.hid (by unfold wholeP; rw [if_pos (by rw [Hn.out]; exact h8)])
    have x0 := HI0.out.cell 0
    have x1 := HI0.out.cell 1
    have y0 := HX0.out.cell 0
    have y1 := HX0.out.cell 1
    have f0 := HI0.out.frozen 0
    have f1 := HI0.out.frozen 1
    have z0 := HX0.out.frozen 0
    have z1 := HX0.out.frozen 1
    clear h8
    go_wp2_with fail
    exact rwhole_bad (by rfl) (by rfl) (by rfl) HI0.out HX0.out (Nat.le_refl _) (by have := Hgf.out; omega) HB0.out HE.out (SameMem.refl _)
  · have h8' : ¬ (n : Int) > 80000 := by omega
    have hn8 : n ≤ 80000 := by omega
    have HRd : Hid (¬ 80000 < t.length) := Lib.hid (by rw [Hn.out]; exact h8)
    clear h8
    have HL := Lib.hid (lines_len t)
    obtain ⟨W1, hW1⟩ : ∃ W1, W0.alloc (.cells #[.slice none 0 0, .slice none 0 0] 43) = W1 := ⟨_, rfl⟩
    obtain ⟨wx, hwx⟩ : ∃ wx, W0.heap.size = wx := ⟨_, rfl⟩
    have hgl : gf < wx := by rw [← hwx]; exact HX0.out.lt
    have hb01 : Below W0.heap.size W0 W1 := by rw [← hW1]; exact (Below.refl _ _).alloc (Nat.le_refl _) _
    have HP1 : Hid (PWh W1 w.heap.size wx w.heap.size gf (.slice none 0 0) (.slice none 0 0) (.slice none 0 0) [] [] [] []) := Lib.hid (by
      refine ⟨by rw [← hW1, ← hwx]; exact Blk.new _ _ _, OwnGl.nil _ _, OwnPc.nil _ _, PcsM.nil _ _, OwnRts.nil _ _, fun g hg => by simp at hg, HI0.out.below hb01 HI0.out.lt, HX0.out.below hb01 HX0.out.lt, ?_, ?_⟩
      · have := Hgf.out
        omega
      · have := Hgf.out
        omega)
    have HB1 : Hid (Below w.heap.size w W1) := Lib.hid (HB0.out.trans (hb01.mono HB0.out.size))
    have HLs := Lib.hid (cleaned_any t (by rw [Hn.out]; omega) W1)
    have HW1 := Lib.hid hW1
    have Hwe := Lib.hid hwx
    clear HX0 HI0 HB0 hb01 hW1 hwx
    go_upto_region 4 with fail
    rw [HW1.out, Hwe.out]
    have Hwx := Lib.hid hgl
    clear HW1 Hwe hz hgl
    clear W0
    go_wp2_with fail
    refine HLs.out.mono ?_
    rintro e W2 ⟨⟨lv, rfl, hown⟩, hb⟩
    obtain ⟨lA, lc, hlv⟩ := hown.len
    subst hlv
    obtain ⟨ln, hln⟩ : ∃ ln, (linesL t).length = ln := ⟨_, rfl⟩
    have Hln := Lib.hid hln
    rw [hln] at hown ⊢
    have HOwn := Lib.hid hown
    have hlm : ln ≤ 80001 := by have := HL.out; rw [Hln.out, Hn.out] at this; omega
    have HP2 := Lib.hid (HP1.out.below hb)
    have HB2 := Lib.hid (HB1.out.trans (hb.mono HB1.out.size))
    have Hzb : Hid (wx < W1.heap.size) := Lib.hid HP1.out.blk.lt
    have H0 := Lib.hid (WStepsTo.zero (linesL t))
    have Hz2 : Hid (wx < W2.heap.size) := Lib.hid HP2.out.blk.lt
    clear hb hown hln HP1 HB1 HLs
    go_wp2_with fail
    go_loopg [5, 7] ln (fun gk sv iv wr => ∃ (i : Nat) (x : WSt) (gA : Option Addr) (gn gc : Nat) (sA : Option Addr) (sn sc : Nat) (gl : List (Glob × Value)) (ds : List PcD), sv = .slice sA sn sc ∧ iv = .int .i64 (i : Int) ∧ i + gk = ln ∧ Hid (WStepsTo (linesL t) i x) ∧ Hid (WCalls x ∧ gl.map (fun g => g.1) = x.globs) ∧ Hid (PWh wr w.heap.size wx w.heap.size gf (.slice gA gn gc) (.slice sA sn sc) (.slice none 0 0) gl ds (x.secs.map entP) []) ∧ Hid (∀ k, InPw wx (.slice gA gn gc) (.slice sA sn sc) (.slice none 0 0) ds k → k = wx ∨ W2.heap.size ≤ k) ∧ Hid (OutS (fun k => k = wx) W2 wr))
    case atStart => exact ⟨0, _, none, 0, 0, none, 0, 0, [], [], rfl, rfl, by omega, H0, Lib.hid ⟨fun y hy => by simp at hy, rfl⟩, HP2, Lib.hid (fun k hk => by
      rcases hk with h | h | h | h | ⟨d, h, _⟩
      · exact .inl h
      · cases h
      · cases h
      · cases h
      · simp at h), Lib.hid (OutS.refl _ _)⟩
    case round =>
      obtain ⟨i, x, gA, gn, gc, sA, sn, sc, gl, ds, rfl, rfl, hi, HT, HCg, HPi, HIi, HOi⟩ := hrel
      clear H0
      have HBi : Hid (Below w.heap.size w wr) := Lib.hid (HB2.out.trans (HOi.out.below HB2.out.size fun k hk => by have := Hwx.out; have := Hgf.out; omega))
      have hsn : sn = ds.length := by
        rcases HPi.out.ptrs.2 with ⟨e, h0⟩ | ⟨g, cap, cur, e, _⟩
        · have := (Value.slice.inj e).2.1
          omega
        · exact (Value.slice.inj e).2.1
      have hgn : gn = gl.length := by
        rcases HPi.out.globs.row.2 with ⟨e, h0⟩ | ⟨g, cap, cur, e, _⟩
        · have := (Value.slice.inj e).2.1
          omega
        · exact (Value.slice.inj e).2.1
      have hsx : sn = x.secs.length := by rw [hsn, HPi.out.pcs.len, List.length_map]
      have hgx : gn = x.globs.length := by rw [hgn, ← HCg.out.2, List.length_map]
      have Hsn := Lib.hid hsn
      have Hgn := Lib.hid hgn
      have Hsx := Lib.hid hsx
      have Hgx := Lib.hid hgx
      clear hsn hgn hsx hgx
      rcases gk with _ | gk
      · obtain rfl : i = ln := by omega
        have hD := HT.out.done (by rw [Hln.out]; exact Nat.le_refl _)
        have HRp : Hid (wholeP t = imgP x) := Lib.hid (by unfold wholeP; rw [if_neg HRd.out, hD, if_neg (by simp)])
        obtain ⟨names, hnames⟩ : ∃ names, secNames x.secs = names := ⟨_, rfl⟩
        have HNm := Lib.hid hnames
        have HE0 : Hid (EsP x names 0 (x.secs.map entP)) := Lib.hid ⟨by rw [← hnames, List.map_map]; rfl, fun _ _ => rfl⟩
        have Hnl : Hid (names.length = sn) := Lib.hid (by rw [← hnames, Hsx.out]; unfold secNames; rw [List.length_map])
        have hsl : sn ≤ 1000000 := by have := Hsx.out; have := HT.out.2.2.1; omega
        clear hD hnames
        go_upto_region 27 with fail
        go_loopg [12] sn (fun gk iv wr => ∃ (j : Nat) (es : List PcE) (rA : Option Addr) (rn rc : Nat) (rl : List (Rout × Value)), iv = .int .i64 (j : Int) ∧ j + gk = sn ∧ Hid (PWh wr w.heap.size wx w.heap.size gf (.slice gA gn gc) (.slice sA sn sc) (.slice rA rn rc) gl ds es rl) ∧ Hid (EsP x names j es) ∧ Hid (rl.map (fun r => r.1) = (x.secs.take j).map (routP names)) ∧ Hid (∀ k, k < j → secBad x.secs k = 0) ∧ Hid (Below w.heap.size w wr))
        case atStart => exact ⟨0, _, none, 0, 0, [], rfl, by omega, HPi, HE0, Lib.hid rfl, Lib.hid (fun k h => absurd h (Nat.not_lt_zero k)), HBi⟩
        case round =>
          obtain ⟨j, es, rA, rn, rc, rl, rfl, hj, HP, HEs, HRl, HBd, HB⟩ := hrel
          clear HPi HE0 HBi
          rcases gk with _ | gj
          · obtain rfl : j = sn := by omega
            have hfb := firstBad_ok (bad := secBad x.secs) (n := x.secs.length) (fun k hk => HBd.out k (by rw [Hsx.out]; exact hk))
            have hrl : rl.map (fun r => r.1) = routsP x.secs := by
              rw [HRl.out, Hsx.out, List.take_length, ← HNm.out]
              rfl
            obtain ⟨uc, huc⟩ : ∃ uc, (machF x.globs (routsP x.secs)).1 = uc := ⟨_, rfl⟩
            obtain ⟨ua, hua⟩ : ∃ ua, (machF x.globs (routsP x.secs)).2 = ua := ⟨_, rfl⟩
            have HE : Hid (wholeP t = if uc = 0 then ((x.globs, routsP x.secs), (0, 0)) else (([], []), (uc, ua))) := Lib.hid (by
              rw [HRp.out, ← huc, ← hua]
              unfold imgP
              rw [hfb, if_neg (by simp)])
            have hok := whole_ok HT.out.2 (by omega) (fun k hk => HBd.out k (by rw [Hsx.out]; exact hk))
            have HG := HP.out.globs.globs
            have HR := HP.out.rts.routs
            rw [HCg.out.2] at HG
            rw [hrl] at HR
            have HCk := Lib.hid (MachineCheck_any (.slice gA gn gc) (.slice rA rn rc) x.globs (routsP x.secs) wr HG HR hok.1 hok.2)
            rw [huc, hua] at HCk
            have Hrl := Lib.hid hrl
            have x0 := HP.out.blk.cell 0
            have x1 := HP.out.blk.cell 1
            clear hfb hrl huc hua hok HG HR
            go_wp2_with fail
            refine HCk.out.mono ?_
            rintro e W5 ⟨rfl, hb5⟩
            have HB6 : Hid (Below w.heap.size w (W5.alloc (.cells #[.int .i64 uc, .int .i64 ua] 24))) := Lib.hid ((HB.out.trans (hb5.mono HB.out.size)).alloc (Nat.le_trans HB.out.size hb5.size) _)
            have HP6 : Hid (PWh (W5.alloc (.cells #[.int .i64 uc, .int .i64 ua] 24)) w.heap.size wx w.heap.size gf (.slice gA gn gc) (.slice sA j sc) (.slice rA rn rc) gl ds es rl) := Lib.hid ((HP.out.below hb5).below ((Below.refl _ _).alloc (Nat.le_refl _) _))
            have HF6 : Hid (Blk (W5.alloc (.cells #[.int .i64 uc, .int .i64 ua] 24)) W5.heap.size 24 #[.int .i64 uc, .int .i64 ua]) := Lib.hid (Blk.new _ _ _)
            have hz13 : gf < W5.heap.size ∧ w.heap.size < W5.heap.size := ⟨(HP.out.below hb5).flt.lt, (HP.out.below hb5).res.lt⟩
            clear hb5 HCk x0 x1
            go_upto_region 50 with fail
            generalize W5.alloc (.cells #[.int .i64 uc, .int .i64 ua] 24) = W6 at *
            generalize W5.heap.size = g13 at *
            have n1 : ¬ g13 = gf := by omega
            have n2 : ¬ gf = g13 := by omega
            have n3 : ¬ g13 = w.heap.size := by omega
            have n4 : ¬ w.heap.size = g13 := by omega
            clear hz13
            have v0 := HF6.out.cell 0
            have v1 := HF6.out.cell 1
            have x0 := HP6.out.res.cell 0
            have x1 := HP6.out.res.cell 1
            have y0 := HP6.out.flt.cell 0
            have y1 := HP6.out.flt.cell 1
            have f0 := HP6.out.res.frozen 0
            have f1 := HP6.out.res.frozen 1
            have z0 := HP6.out.flt.frozen 0
            have z1 := HP6.out.flt.frozen 1
            by_cases h0 : uc = 0
            · subst h0
              have HE0 : Hid (wholeP t = ((x.globs, routsP x.secs), (0, 0))) := Lib.hid (by rw [HE.out, if_pos rfl])
              have i0 := HP6.out.blk.cell 0
              have i1 := HP6.out.blk.cell 1
              go_wp2_with fail
              refine rwhole_done (by rfl) (by rfl) (by rfl) HP6.out (Nat.le_refl _) (by have := Hgf.out; omega) HB6.out ?_
              rw [HE0.out, HCg.out.2, Hrl.out]
            · have hub : (uc == 0) = false := by simpa using h0
              have HE0 : Hid (wholeP t = (([], []), (uc, ua))) := Lib.hid (by rw [HE.out, if_neg h0])
              clear h0
              go_wp2_with fail
              go_region
              all_goals
                go_wp2_with fail
                exact rwhole_bad (by rfl) (by rfl) (by rfl) HP6.out.res HP6.out.flt (Nat.le_refl _) (by have := Hgf.out; omega) HB6.out HE0.out ⟨rfl, rfl, rfl, rfl⟩
          · have hjl : j < sn := by omega
            obtain ⟨d, hd⟩ : ∃ d, ds[j]? = some d := ⟨ds[j]'(by rw [← Hsn.out]; exact hjl), List.getElem?_eq_getElem _⟩
            obtain ⟨y, hy⟩ : ∃ y, x.secs[j]? = some y := ⟨x.secs[j]'(by rw [← Hsx.out]; exact hjl), List.getElem?_eq_getElem _⟩
            have he : es[j]? = some (entP y) := by rw [HEs.out.2 j (Nat.le_refl _), List.getElem?_map, hy]; rfl
            have hym := List.mem_of_getElem? hy
            obtain ⟨b, c, hbe, _, hb2, hbc⟩ := (show OwnPc wr w.heap.size (.slice sA ds.length sc) ds from by rw [← Hsn.out]; exact HP.out.ptrs).at_ hd
            have ge1 : sA = some ⟨b, 0, none⟩ := (Value.slice.inj hbe).1
            subst ge1
            have hsb : secBad x.secs j = sectP names y.st := by unfold secBad; rw [hy, HNm.out]
            have hpc : PcOf wr w.heap.size d (entP y) := HP.out.pcs.each j d (entP y) hd he
            have hst := HT.out.2.2.2.2 y hym
            have HSt := Lib.hid (psettle_any wr (show Pie wr w.heap.size d.bx y.name y.st d.v from hpc) (by have := hst.2.2.2; omega) (by have := hst.2.2.1; omega) (fun z hz g hg => ((hst.2.1 z hz).2 g hg).2))
            have HFt : Hid (∀ uc : Int, sectP names y.st = uc → uc ≠ 0 → wholeP t = (([], []), (uc, (j : Int)))) := Lib.hid (fun uc huc h0 => by
              have hfb := firstBad_hit (bad := secBad x.secs) (n := x.secs.length) (k := j) (by rw [← Hsx.out]; exact hjl) (by rw [hsb, huc]; exact h0) HBd.out
              rw [HRp.out]
              unfold imgP
              rw [hfb, hsb, huc, if_pos h0])
            obtain ⟨ynm, hynm⟩ : ∃ ynm, y.name = ynm := ⟨_, rfl⟩
            obtain ⟨yst, hyst⟩ : ∃ yst, y.st = yst := ⟨_, rfl⟩
            have Hyc : Hid (∀ z ∈ yst.code, CallOk z) := Lib.hid (by rw [← hyst]; exact HCg.out.1 y hym)
            obtain ⟨cA, cc, hcv⟩ := row_form hpc.kinds.1
            obtain ⟨cn, hcn⟩ : ∃ cn, yst.code.length = cn := ⟨_, rfl⟩
            have hcv2 : d.v.c = .slice cA cn cc := by rw [hcv]; unfold entP; simp only; rw [List.length_map, hyst, hcn]
            have hkf := row_form hpc.kinds.2.2.2.2
            obtain ⟨kA, kc, hkv⟩ := hkf
            have hkv2 : d.v.k = .slice kA cn kc := by rw [hkv]; unfold entP; simp only; rw [List.length_map, hyst, hcn]
            rw [hynm, hyst] at HSt
            rw [hyst] at hsb HFt hst
            have Hsb := Lib.hid hsb
            have Hd := Lib.hid hd
            have He := Lib.hid he
            have Hy := Lib.hid hy
            have Hyn := Lib.hid (And.intro hynm hyst)
            have Hpc := Lib.hid hpc
            have Hst := Lib.hid hst
            have Hcn := Lib.hid hcn
            have Hcv := Lib.hid hcv2
            have Hkv := Lib.hid hkv2
            have Hb2 := Lib.hid hb2
            have k0 : (0 : Int) ≤ (j : Int) := Int.natCast_nonneg j
            have k1 : (j : Int) < (sn : Int) := by omega
            clear hd hy he hym hbe hb2 hsb hpc hst hynm hyst hcv hcn hcv2 hkv hkv2
            cases hse : settleP yst with
            | some q =>
              have HE : Hid (wholeP t = (([], []), (6, (j : Int)))) := Lib.hid (HFt.out 6 (by unfold sectP; rw [hse, if_pos (by rfl)]) (by decide))
              have Hse := Lib.hid hse
              have hq : (q : Int) ≥ 0 := Int.natCast_nonneg q
              clear hse
              go_wp2_with fail
              refine HSt.out.mono ?_
              rintro e W5 ⟨ho, h1, _⟩
              obtain rfl := h1 q Hse.out
              have HX4 : Hid (Blk W5 gf 24 #[.int .i64 0, .int .i64 0]) := Lib.hid ((ho.block _ HP.out.flt.lt (Hpc.out.far HP.out.flt (by decide) (by decide) (by decide) (by decide))).trans HP.out.flt)
              have HI4 : Hid (Blk W5 w.heap.size 43 #[.slice none 0 0, .slice none 0 0]) := Lib.hid ((ho.block _ HP.out.res.lt (Hpc.out.far HP.out.res (by decide) (by decide) (by decide) (by decide))).trans HP.out.res)
              have HB4 : Hid (Below w.heap.size w W5) := Lib.hid (HB.out.trans (ho.below HB.out.size fun k hk => Hpc.out.low hk))
              have x0 := HI4.out.cell 0
              have x1 := HI4.out.cell 1
              have y0 := HX4.out.cell 0
              have y1 := HX4.out.cell 1
              have f0 := HI4.out.frozen 0
              have f1 := HI4.out.frozen 1
              have z0 := HX4.out.frozen 0
              have z1 := HX4.out.frozen 1
              clear ho h1 HSt
              go_wp2_with fail
              exact rwhole_bad (by rfl) (by rfl) (by rfl) HI4.out HX4.out (Nat.le_refl _) (by have := Hgf.out; omega) HB4.out HE.out (SameMem.refl _)
            | none =>
              have Hse := Lib.hid hse
              clear hse
              go_wp2_with fail
              refine HSt.out.mono ?_
              rintro e W5 ⟨ho, _, h2⟩
              obtain ⟨rfl, hm5⟩ := h2 Hse.out
              have HB5 : Hid (Below w.heap.size w W5) := Lib.hid (HB.out.trans (ho.below HB.out.size fun k hk => Hpc.out.low hk))
              have HP5 : Hid (PWh W5 w.heap.size wx w.heap.size gf (.slice gA gn gc) (.slice (some ⟨b, 0, none⟩) sn sc) (.slice rA rn rc) gl ds (es.set j ⟨ynm, settled yst, labsI yst.labs, placesI yst.labs, yst.code.map goalI, yst.code.map callI⟩) rl) := Lib.hid (HP.out.put0 Hd.out ho hm5)
              have HL0 := Lib.hid (RLink.start names yst)
              clear ho h2 hm5 HSt hbc
              go_upto_region 33 with fail
              clear HP HB
              go_loopg [14] cn (fun gk iv wr => ∃ (q : Nat) (ms : List Mac), iv = .int .i64 (q : Int) ∧ q + gk = cn ∧ Hid (RLink names yst q ms) ∧ Hid (PWh wr w.heap.size wx w.heap.size gf (.slice gA gn gc) (.slice (some ⟨b, 0, none⟩) sn sc) (.slice rA rn rc) gl ds (es.set j ⟨ynm, ms, labsI yst.labs, placesI yst.labs, yst.code.map goalI, yst.code.map callI⟩) rl) ∧ Hid (Below w.heap.size w wr))
              case atStart => exact ⟨0, _, rfl, by omega, HL0, HP5, HB5⟩
              case round =>
                obtain ⟨q, ms, rfl, hq, HL, HPq, HBq⟩ := hrel
                clear HL0 HP5 HB5
                have Hjs : Hid ((es.set j ⟨ynm, ms, labsI yst.labs, placesI yst.labs, yst.code.map goalI, yst.code.map callI⟩)[j]? = some ⟨ynm, ms, labsI yst.labs, placesI yst.labs, yst.code.map goalI, yst.code.map callI⟩) := Lib.hid (by rw [List.getElem?_set_self (List.getElem?_eq_some_iff.1 He.out).1])
                have Hpq : Hid (PcOf wr w.heap.size d ⟨ynm, ms, labsI yst.labs, placesI yst.labs, yst.code.map goalI, yst.code.map callI⟩) := Lib.hid (HPq.out.pcs.each j d _ Hd.out Hjs.out)
                have Hml : Hid (ms.length = cn) := Lib.hid (by rw [HL.out.len, Hcn.out])
                have c1 : wr.cell? ⟨d.bx, 1, none⟩ = some (.slice cA cn cc) := by rw [← Hcv.out]; exact Hpq.out.blk.cell 1
                rcases gk with _ | gq
                · obtain rfl : q = cn := by omega
                  obtain ⟨hms, hmet⟩ := HL.out.done (by rw [Hcn.out]; exact Nat.le_refl _)
                  subst hms
                  obtain ⟨lms, hlms⟩ : ∃ lms, linked names yst = lms := ⟨_, rfl⟩
                  obtain ⟨uc, huc⟩ : ∃ uc, (checkS lms).1 = uc := ⟨_, rfl⟩
                  obtain ⟨ua, hua⟩ : ∃ ua, (checkS lms).2 = ua := ⟨_, rfl⟩
                  have hsec : sectP names yst = uc := by rw [sect_found Hse.out hmet, hlms, huc]
                  have hmok : ∀ m ∈ lms, m.ok := by rw [← hlms]; exact linked_ok Hse.out Hst.out.2 (by omega) (by rw [Hnl.out]; exact hsl)
                  rw [hlms] at HPq Hpq Hjs HL Hml
                  have HCk := Lib.hid (MacCheck_any (.slice cA q cc) lms wr (OwnMacs.macs (show OwnMacs wr w.heap.size (.slice cA q cc) lms from by rw [← Hcv.out]; exact Hpq.out.kinds.1)))
                  rw [huc, hua] at HCk
                  have Hlms := Lib.hid hlms
                  have Huc := Lib.hid huc
                  have Hsec := Lib.hid hsec
                  have Hmok := Lib.hid hmok
                  clear hmet hlms huc hua hsec hmok
                  go_wp2_with fail
                  refine HCk.out.mono ?_
                  rintro e W6 ⟨rfl, hb6⟩
                  have hb7 : Below wr.heap.size wr (W6.alloc (.cells #[.int .i64 uc, .int .i64 ua] 24)) := hb6.alloc hb6.size _
                  have HB7 : Hid (Below w.heap.size w (W6.alloc (.cells #[.int .i64 uc, .int .i64 ua] 24))) := Lib.hid (HBq.out.trans (hb7.mono HBq.out.size))
                  have HP7 := Lib.hid (HPq.out.below hb7)
                  have HF7 : Hid (Blk (W6.alloc (.cells #[.int .i64 uc, .int .i64 ua] 24)) W6.heap.size 24 #[.int .i64 uc, .int .i64 ua]) := Lib.hid (Blk.new _ _ _)
                  have hz17 : gf < W6.heap.size ∧ w.heap.size < W6.heap.size := ⟨(HPq.out.below hb6).flt.lt, (HPq.out.below hb6).res.lt⟩
                  clear hb6 hb7 HCk c1
                  go_upto_region 46 with fail
                  generalize W6.alloc (.cells #[.int .i64 uc, .int .i64 ua] 24) = W7 at *
                  generalize W6.heap.size = g17 at *
                  have v0 := HF7.out.cell 0
                  have v1 := HF7.out.cell 1
                  by_cases h0 : uc = 0
                  · subst h0
                    have hrn : rn = rl.length := by
                      rcases HP7.out.rts.row.2 with ⟨e, h0⟩ | ⟨g, cap, cur, e, _⟩
                      · have := (Value.slice.inj e).2.1
                        omega
                      · exact (Value.slice.inj e).2.1
                    have hrlj : rl.length = j := by
                      have := congrArg List.length HRl.out
                      rw [List.length_map, List.length_map, List.length_take] at this
                      have := Hsx.out
                      omega
                    have Hrn := Lib.hid hrn
                    obtain ⟨W8, hW8⟩ : ∃ W8, W7.drew = W8 := ⟨_, rfl⟩
                    have HW8 := Lib.hid hW8
                    have hb78 : Below W7.heap.size W7 W8 := by rw [← hW8]; exact ⟨rfl, rfl, rfl, Nat.le_refl _, fun _ _ => rfl⟩
                    have HP8 := Lib.hid (HP7.out.below hb78)
                    have HB8 : Hid (Below w.heap.size w W8) := Lib.hid (HB7.out.trans (hb78.mono HB7.out.size))
                    have Hpc8 : Hid (PcOf W8 w.heap.size d ⟨ynm, lms, labsI yst.labs, placesI yst.labs, yst.code.map goalI, yst.code.map callI⟩) := Lib.hid (HP8.out.pcs.each j d _ Hd.out Hjs.out)
                    have hrow8 : W8.ownsRow w.heap.size 76 2 (.slice rA rn rc) rn (routCells rl) := by have h := HP8.out.rts.row; rw [← hrn] at h; exact h
                    have HRow8 := Lib.hid hrow8
                    have Hc8 : Hid (∀ V, Below W8.heap.size W8 V → V.cell? ⟨wx, 1, none⟩ = some (.slice rA rn rc) ∧ V.cell? ⟨d.bx, 0, none⟩ = some (.string (mkS ynm)) ∧ V.cell? ⟨d.bx, 1, none⟩ = some (.slice cA q cc)) := Lib.hid fun V hV => by
                      have hbk : Blk V d.bx _ _ := (PieM.blk Hpc8.out).below hV (PieM.blk Hpc8.out).lt
                      refine ⟨(HP8.out.blk.below hV HP8.out.blk.lt).cell 1, hbk.cell 0, ?_⟩
                      rw [← Hcv.out]
                      exact hbk.cell 1
                    have HWr := Lib.hid (writes_of_check Huc.out Hmok.out)
                    have HCB : Hid (∀ V, Below W8.heap.size W8 V → Calls Tryz.prog 41 #[.slice cA q cc] V fun e w' => ∃ v', e = .returned v' ∧ OwnB w' w.heap.size v' (bytesS lms) ∧ Below V.heap.size V w') := Lib.hid fun V hV => by
                      refine (CodeBytes_any (.slice cA q cc) lms V (OwnMacs.macs (show OwnMacs V w.heap.size (.slice cA q cc) lms from by rw [← Hcv.out]; exact (Hpc8.out.stay fun k hk => hV.block k (Hpc8.out.lt hk)).kinds.1)) HWr.out.2 HWr.out.1).mono ?_
                      rintro e w' ⟨v', rfl, ho, hb⟩
                      exact ⟨v', rfl, OwnB.more ho (Nat.le_trans HB8.out.size hV.size), hb⟩
                    obtain ⟨pv, hp0, hp1, hp2, hp3, hp4, hp5, hp6, hp7, hp8, hp9, hp10, hp11, hp12, hp13, hp14, hp15⟩ : ∃ pv : Nat → Option Value, pv 0 = some (.pointer (some ⟨wx, 1, none⟩)) ∧ pv 1 = some (.slice rA rn rc) ∧ pv 2 = some (.pointer (some ⟨d.bx, 0, none⟩)) ∧ pv 3 = some (.pointer (some ⟨d.bx, 0, none⟩)) ∧ pv 4 = some (.pointer (some ⟨d.bx, 0, none⟩)) ∧ pv 5 = some (.string (mkS ynm)) ∧ pv 6 = some (.pointer (some ⟨d.bx, 0, none⟩)) ∧ pv 7 = some (.pointer (some ⟨d.bx, 0, none⟩)) ∧ pv 8 = some (.pointer (some ⟨d.bx, 1, none⟩)) ∧ pv 9 = some (.slice cA q cc) ∧ pv 10 = none ∧ pv 11 = none ∧ pv 12 = none ∧ pv 13 = none ∧ pv 14 = some (.pointer (some ⟨wx, 1, none⟩)) ∧ pv 15 = none :=
                      ⟨fun k => match k with
                        | 0 => some (.pointer (some ⟨wx, 1, none⟩))
                        | 1 => some (.slice rA rn rc)
                        | 2 => some (.pointer (some ⟨d.bx, 0, none⟩))
                        | 3 => some (.pointer (some ⟨d.bx, 0, none⟩))
                        | 4 => some (.pointer (some ⟨d.bx, 0, none⟩))
                        | 5 => some (.string (mkS ynm))
                        | 6 => some (.pointer (some ⟨d.bx, 0, none⟩))
                        | 7 => some (.pointer (some ⟨d.bx, 0, none⟩))
                        | 8 => some (.pointer (some ⟨d.bx, 1, none⟩))
                        | 9 => some (.slice cA q cc)
                        | 14 => some (.pointer (some ⟨wx, 1, none⟩))
                        | _ => none, rfl, rfl, rfl, rfl, rfl, rfl, rfl, rfl, rfl, rfl, rfl, rfl, rfl, rfl, rfl, rfl⟩
                    have P0 := Lib.hid hp0
                    have P1 := Lib.hid hp1
                    have P2 := Lib.hid hp2
                    have P3 := Lib.hid hp3
                    have P4 := Lib.hid hp4
                    have P5 := Lib.hid hp5
                    have P6 := Lib.hid hp6
                    have P7 := Lib.hid hp7
                    have P8 := Lib.hid hp8
                    have P9 := Lib.hid hp9
                    have P14 := Lib.hid hp14
                    have PN := Lib.hid (And.intro hp10 (And.intro hp11 (And.intro hp12 (And.intro hp13 hp15))))
                    have HS0 : Hid (RtRun pv W8 w.heap.size wx rn (.slice rA rn rc) (mkS ynm) (routCells rl) (bytesS lms) (fun _ => none) { W7 with drawn := W7.drawn + 1 }) := Lib.hid (by
                      have h : ({ W7 with drawn := W7.drawn + 1 } : World) = W8 := HW8.out
                      rw [h]
                      exact RtRun.start (Below.refl _ _))
                    have hrnl : rn ≤ 1000000 := by omega
                    have Hrnl := Lib.hid hrnl
                    clear hp0 hp1 hp2 hp3 hp4 hp5 hp6 hp7 hp8 hp9 hp10 hp11 hp12 hp13 hp14 hp15 hrn hrlj hW8 hb78 hrow8 hrnl
                    go_wp2_with fail
                    refine wp_region_keeps (RtRun pv W8 w.heap.size wx rn (.slice rA rn rc) (mkS ynm) (routCells rl) (bytesS lms)) (by kernel_rfl) (by kernel_rfl) HS0.out ?_ ?_
                    · refine ⟨⟨rfl, ?_⟩, ⟨rfl, ?_⟩, ⟨rfl, ?_⟩, ⟨rfl, ?_⟩, ⟨rfl, ?_⟩, ⟨rfl, ?_⟩, ⟨rfl, ?_⟩, ⟨rfl, ?_⟩, ⟨rfl, ?_⟩, ⟨rfl, ?_⟩, ⟨rfl, ?_⟩, ⟨rfl, ?_⟩, ⟨rfl, ?_⟩, ⟨rfl, ?_⟩, ⟨rfl, ?_⟩, ⟨rfl, ?_⟩, trivial⟩
                      all_goals
                        intro σ vs w' hvs hcl' hC hk hdep
                        simp only [putO, Act.put, List.setIfInBounds_toArray, List.set_cons_succ, List.set_cons_zero, Nat.reduceAdd]
                        have HC := Lib.hid hC
                        have HD := Lib.hid hdep
                        have HLc := Lib.hid hcl'
                        have HSk := Lib.hid hk
                        clear hC hdep hcl' hk hvs
                      · go_simp
                        exact HC.out.say P0.out (by decide)
                      · rw [HC.out.val (HD.out ⟨0, .data⟩ (by simp) rfl) P0.out]
                        have n13 := not_done HLc.out HSk.out (j := 13) rfl rfl
                        obtain ⟨y1, y2, y3⟩ := Hc8.out w' (HC.out.low n13)
                        clear n13
                        go_simp
                        exact HC.out.say P1.out (by decide)
                      · go_simp
                        exact HC.out.say P2.out (by decide)
                      · rw [HC.out.val (HD.out ⟨2, .data⟩ (by simp) rfl) P2.out]
                        go_simp
                        exact HC.out.say P3.out (by decide)
                      · rw [HC.out.val (HD.out ⟨3, .data⟩ (by simp) rfl) P3.out]
                        go_simp
                        exact HC.out.say P4.out (by decide)
                      · rw [HC.out.val (HD.out ⟨4, .data⟩ (by simp) rfl) P4.out]
                        have n11 := not_done HLc.out HSk.out (j := 11) rfl rfl
                        have n12 := not_done HLc.out n11 (j := 12) rfl rfl
                        have n13 := not_done HLc.out n12 (j := 13) rfl rfl
                        obtain ⟨y1, y2, y3⟩ := Hc8.out w' (HC.out.low n13)
                        clear n11 n12 n13
                        go_simp
                        exact HC.out.say P5.out (by decide)
                      · go_simp
                        exact HC.out.say P6.out (by decide)
                      · rw [HC.out.val (HD.out ⟨6, .data⟩ (by simp) rfl) P6.out]
                        go_simp
                        exact HC.out.say P7.out (by decide)
                      · rw [HC.out.val (HD.out ⟨7, .data⟩ (by simp) rfl) P7.out]
                        go_simp
                        exact HC.out.say P8.out (by decide)
                      · rw [HC.out.val (HD.out ⟨8, .data⟩ (by simp) rfl) P8.out]
                        have n10 := not_done HLc.out HSk.out (j := 10) rfl rfl
                        have n11 := not_done HLc.out n10 (j := 11) rfl rfl
                        have n12 := not_done HLc.out n11 (j := 12) rfl rfl
                        have n13 := not_done HLc.out n12 (j := 13) rfl rfl
                        obtain ⟨y1, y2, y3⟩ := Hc8.out w' (HC.out.low n13)
                        clear n10 n11 n12 n13
                        go_simp
                        exact HC.out.say P9.out (by decide)
                      · rw [HC.out.val (HD.out ⟨9, .data⟩ (by simp) rfl) P9.out]
                        have n11 := not_done HLc.out HSk.out (j := 11) rfl rfl
                        have n12 := not_done HLc.out n11 (j := 12) rfl rfl
                        have n13 := not_done HLc.out n12 (j := 13) rfl rfl
                        have HLw := Lib.hid (HC.out.low n13)
                        clear n11 n12 n13
                        go_simp
                        refine (HCB.out w' HLw.out).mono ?_
                        rintro e w2 ⟨u, rfl, hu, hb⟩
                        exact ⟨u, rfl, HC.out.call PN.out.1 HSk.out hb hu⟩
                      · rw [HC.out.val (HD.out ⟨5, .data⟩ (by simp) rfl) P5.out]
                        have h10 := HD.out ⟨10, .data⟩ (by simp) rfl
                        obtain ⟨A, k, c, e, hh⟩ := HC.out.build PN.out.2.1 HSk.out h10
                        rw [e]
                        have HH := Lib.hid hh
                        clear h10 e hh
                        go_simp
                        exact HH.out
                      · have h11 := HD.out ⟨11, .data⟩ (by simp) rfl
                        obtain ⟨A, k, c, e, hh⟩ := HC.out.make PN.out.2.2.1 HSk.out h11
                        rw [e]
                        have HH := Lib.hid hh
                        clear h11 e hh
                        go_simp
                        exact HH.out
                      · rw [HC.out.val (HD.out ⟨1, .data⟩ (by simp) rfl) P1.out]
                        have h12 := HD.out ⟨12, .data⟩ (by simp) rfl
                        obtain ⟨g, B, c', w2, e, hr, hh⟩ := HC.out.grow PN.out.2.2.2.1 HSk.out h12 HRow8.out Hrnl.out HB8.out.size
                        rw [e]
                        rw [exec_app (.tmp 189) (.tmp 200) 41 41 rfl _ _ _ _ rfl rfl hr]
                        exact hh
                      · go_simp
                        exact HC.out.say P14.out (by decide)
                      · rw [HC.out.val (HD.out ⟨14, .data⟩ (by simp) rfl) P14.out]
                        have h13 := HD.out ⟨13, .data⟩ (by simp) rfl
                        obtain ⟨⟨B, c', e⟩, c1, f1, hh⟩ := HC.out.store PN.out.2.2.2.2 HSk.out undef h13 HRow8.out HP8.out.blk
                        rw [e] at hh ⊢
                        have HH := Lib.hid hh
                        clear h13 e hh
                        go_simp
                        exact HH.out
                    intro σ vs W9 hC hall
                    obtain ⟨w1, wa, A, k, c, B, c', hb1, ho1, hap, hw9⟩ := hC.done (hall 15 (by decide))
                    have hP1 := HP8.out.below hb1
                    have hadd := hP1.addRout (nm := mkS ynm) (code := bytesS lms) (cv := .slice A k c) (rv' := .slice B (rn + 1) c') (by rw [← Hrn.out]; exact hap) ho1
                    rw [← hw9] at hadd
                    have HAdd := Lib.hid hadd
                    have HB9 : Hid (Below w.heap.size w W9) := Lib.hid ((HB8.out.trans (hb1.mono HB8.out.size)).trans HAdd.out.2)
                    clear hC hall hb1 ho1 hap hw9 hP1 hadd HS0 P0 P1 P2 P3 P4 P5 P6 P7 P8 P9 P14 PN
                    simp only [putO, Act.put, List.setIfInBounds_toArray, List.set_cons_succ, List.set_cons_zero, Nat.reduceAdd]
                    generalize vs 0 = s0 at *
                    generalize vs 1 = s1 at *
                    generalize vs 2 = s2 at *
                    generalize vs 3 = s3 at *
                    generalize vs 4 = s4 at *
                    generalize vs 5 = s5 at *
                    generalize vs 6 = s6 at *
                    generalize vs 7 = s7 at *
                    generalize vs 8 = s8 at *
                    generalize vs 9 = s9 at *
                    generalize vs 10 = s10 at *
                    generalize vs 11 = s11 at *
                    generalize vs 12 = s12 at *
                    generalize vs 13 = s13 at *
                    generalize vs 14 = s14 at *
                    have HEs2 : Hid (EsP x names (j + 1) (es.set j ⟨ynm, lms, labsI yst.labs, placesI yst.labs, yst.code.map goalI, yst.code.map callI⟩)) := Lib.hid ⟨(namesP_set He.out (by show ynm = y.name; exact Hyn.out.1.symm)).trans HEs.out.1, fun k hk => by rw [List.getElem?_set_ne (by omega)]; exact HEs.out.2 k (by omega)⟩
                    have HRl2 : Hid ((rl ++ [((⟨mkS ynm, bytesS lms⟩ : Rout), Value.slice A k c)]).map (fun r => r.1) = (x.secs.take (j + 1)).map (routP names)) := Lib.hid (by
                      rw [List.map_append, HRl.out, List.take_add_one, Hy.out, List.map_append]
                      unfold routP
                      simp only [Option.toList_some, List.map_cons, List.map_nil]
                      rw [Hyn.out.1, Hyn.out.2, Hlms.out])
                    have HBd2 : Hid (∀ k, k < j + 1 → secBad x.secs k = 0) := Lib.hid fun k hk => by
                      rcases Nat.lt_or_ge k j with h | h
                      · exact HBd.out k h
                      · obtain rfl : k = j := by omega
                        rw [Hsb.out, Hsec.out]
                    have hjm : j ≤ 1000000 := by omega
                    go_wp2_with fail
                    go_roundg gj
                    case measure => omega
                    case rel => exact ⟨j + 1, _, B, _, c', _, by go_num, by omega, Lib.hid HAdd.out.1, HEs2, HRl2, HBd2, HB9⟩
                  · have hub : (uc == 0) = false := by simpa using h0
                    have HE0 : Hid (wholeP t = (([], []), (uc, (j : Int)))) := Lib.hid (HFt.out uc Hsec.out h0)
                    have n1 : ¬ g17 = gf := by omega
                    have n2 : ¬ gf = g17 := by omega
                    have n3 : ¬ g17 = w.heap.size := by omega
                    have n4 : ¬ w.heap.size = g17 := by omega
                    have x0 := HP7.out.res.cell 0
                    have x1 := HP7.out.res.cell 1
                    have y0 := HP7.out.flt.cell 0
                    have y1 := HP7.out.flt.cell 1
                    have f0 := HP7.out.res.frozen 0
                    have f1 := HP7.out.res.frozen 1
                    have z0 := HP7.out.flt.frozen 0
                    have z1 := HP7.out.flt.frozen 1
                    clear h0 hz17
                    go_wp2_with fail
                    go_region
                    all_goals
                      go_wp2_with fail
                      exact rwhole_bad (by rfl) (by rfl) (by rfl) HP7.out.res HP7.out.flt (Nat.le_refl _) (by have := Hgf.out; omega) HB7.out HE0.out ⟨rfl, rfl, rfl, rfl⟩
                · have hql : q < cn := by omega
                  obtain ⟨z, hz⟩ : ∃ z, yst.code[q]? = some z := ⟨yst.code[q]'(by rw [Hcn.out]; exact hql), List.getElem?_eq_getElem _⟩
                  obtain ⟨m, hm, hop⟩ := HL.out.op hz
                  have hca := Hyc.out z (List.mem_of_getElem? hz)
                  unfold CallOk at hca
                  have hmr : wr.ownsRow w.heap.size 39 5 (.slice cA cn cc) ms.length (cellsS ms) := by rw [← Hcv.out]; exact Hpq.out.kinds.1
                  obtain ⟨cb, cc', hcf, _, _⟩ := macs_form (show OwnMacs wr w.heap.size (.slice cA cn cc) ms from hmr) hm
                  have hA : cA = some ⟨cb, 0, none⟩ := (Value.slice.inj hcf).1
                  subst hA
                  have hc0 : wr.cell? ⟨cb, q * 5, none⟩ = some (.int .i64 m.op) := by
                    have hc := World.ownsRow.cells hmr (g := cb) rfl
                    have h := hc (q * 5 + 0) (.int .i64 m.op) ((cellsS_at ms q m hm 0 (by omega)).trans rfl)
                    rwa [addr_add] at h
                  have Hz := Lib.hid hz
                  have Hm := Lib.hid hm
                  have i0 : (0 : Int) ≤ (q : Int) := Int.natCast_nonneg q
                  have i1 : (q : Int) < (cn : Int) := by omega
                  obtain ⟨mop, hmop⟩ : ∃ mop, m.op = mop := ⟨_, rfl⟩
                  rw [hmop] at hc0 hop
                  clear hz hm hmr hcf hmop
                  have hqm : q ≤ 1000000 := by have := Hst.out.2.2.1; have := Hcn.out; omega
                  cases hcl : z.call with
                  | none =>
                    have hne : mop ≠ 44 := fun e => by
                      rw [hcl, ← hop, e] at hca
                      simp at hca
                    have hne1 : (mop != 44) = true := by rw [bne_iff_ne]; exact hne
                    have hne2 : (mop == 44) = false := beq_false_of_ne hne
                    have HL2 := Lib.hid (HL.out.skip Hz.out hcl)
                    clear hcl hca hop hne
                    go_wp2_with fail
                    go_roundg gq
                    case measure => omega
                    case rel => exact ⟨q + 1, ms, by go_num, by omega, HL2, HPq, HBq⟩
                  | some cl =>
                    have h44 : mop = 44 := by
                      rw [hcl, ← hop] at hca
                      simpa using hca
                    subst h44
                    have Hcl := Lib.hid hcl
                    obtain ⟨kb, kc', hke, _, hkb, hkcell⟩ := (show OwnS wr w.heap.size d.v.k (yst.code.map callI) from Hpq.out.kinds.2.2.2.2).at_ (k := q) (by rw [List.getElem?_map, Hz.out]; show some (callI z) = some cl; unfold callI; rw [hcl]; rfl)
                    rw [Hkv.out] at hke
                    have hkA : kA = some ⟨kb, 0, none⟩ := (Value.slice.inj hke).1
                    subst hkA
                    have kw : wrap64 ((sn : Int) - 1) = (sn : Int) - 1 := IntWalk.wrap64_in _ (by omega)
                    have kw2 : IntKind.i64.wrap ((sn : Int) - 1) = (sn : Int) - 1 := (IntWalk.i64_left _).trans kw
                    have Hkb := Lib.hid (And.intro hkb hkcell)
                    have HNs : Hid ((es.set j ⟨ynm, ms, labsI yst.labs, placesI yst.labs, yst.code.map goalI, yst.code.map callI⟩).map (fun e => e.name) = names) := Lib.hid ((namesP_set He.out (by show ynm = y.name; exact Hyn.out.1.symm)).trans HEs.out.1)
                    have HF0 : Hid (FindTo names cl sn (-1)) := Lib.hid (by rw [← Hnl.out]; exact FindTo.start names cl)
                    clear hcl hca hop hke hkb hkcell
                    go_upto_region 38 with fail
                    go_loopg [15, 16] sn (fun gk tv jv wo => ∃ (r : Nat) (t2 : Int) (Wx : World), Wx = wo ∧ tv = .int .i64 t2 ∧ jv = .int .i64 ((r : Int) - 1) ∧ r ≤ gk ∧ gk ≤ r ∧ r ≤ sn ∧ Hid (FindTo names cl r t2) ∧ Hid (Below wr.heap.size wr wo))
                    case atStart => exact ⟨sn, -1, _, rfl, rfl, rfl, Nat.le_refl _, Nat.le_refl _, Nat.le_refl _, HF0, Lib.hid (Below.refl _ _)⟩
                    case round =>
                      clear HF0 kw kw2
                      obtain ⟨r, t2, Wo, rfl, rfl, rfl, hr1, hr2, hrs, HFd, HBo⟩ := hrel
                      have HPo := Lib.hid (HPq.out.below HBo.out)
                      have HBw : Hid (Below w.heap.size w Wo) := Lib.hid (HBq.out.trans (HBo.out.mono HBq.out.size))
                      have Hpo : Hid (PcOf Wo w.heap.size d ⟨ynm, ms, labsI yst.labs, placesI yst.labs, yst.code.map goalI, yst.code.map callI⟩) := Lib.hid (HPo.out.pcs.each j d _ Hd.out Hjs.out)
                      rcases r with _ | r
                      · have hneg : ¬ (((0 : Nat) : Int) - 1) ≥ 0 := by omega
                        have hdn := HFd.out.done
                        have oc1 : Wo.cell? ⟨d.bx, 1, none⟩ = some (.slice (some ⟨cb, 0, none⟩) cn cc) := by rw [← Hcv.out]; exact Hpo.out.blk.cell 1
                        cases hfp : findP names cl with
                        | none =>
                          rw [hfp] at hdn
                          simp only at hdn
                          subst hdn
                          have HE : Hid (wholeP t = (([], []), (6, (j : Int)))) := Lib.hid (HFt.out 6 (sect_lost Hse.out Hz.out Hcl.out hfp) (by decide))
                          have hlt : (-1 : Int) < 0 := by decide
                          have x0 := HPo.out.res.cell 0
                          have x1 := HPo.out.res.cell 1
                          have y0 := HPo.out.flt.cell 0
                          have y1 := HPo.out.flt.cell 1
                          have f0 := HPo.out.res.frozen 0
                          have f1 := HPo.out.res.frozen 1
                          have z0 := HPo.out.flt.frozen 0
                          have z1 := HPo.out.flt.frozen 1
                          clear hfp
                          go_wp2_with fail
                          exact rwhole_bad (by rfl) (by rfl) (by rfl) HPo.out.res HPo.out.flt (Nat.le_refl _) (by have := Hgf.out; omega) HBw.out HE.out (SameMem.refl _)
                        | some p =>
                          rw [hfp] at hdn
                          simp only at hdn
                          subst hdn
                          have p0 : ¬ (p : Int) < 0 := by omega
                          have Hfp := Lib.hid hfp
                          have hmo : OwnMacs Wo w.heap.size (.slice (some ⟨cb, 0, none⟩) cn cc) ms := by rw [← Hcv.out]; exact Hpo.out.kinds.1
                          obtain ⟨cb', cc2, hcf, ⟨u, hcu⟩, hcz⟩ := macs_form hmo Hm.out
                          have hcb : cb' = cb := by
                            have h1 := (Value.slice.inj hcf).1
                            injection h1 with h1
                            injection h1 with h1
                            exact h1.symm
                          subst hcb
                          have hset := pie_setN (show PieM Wo w.heap.size d.bx ynm (pieRows ms (labsI yst.labs) (placesI yst.labs) (yst.code.map goalI) (yst.code.map callI) d.v) from Hpo.out) (cb := cb') (c := cc) (by rw [Hcv.out, Hml.out]) Hm.out (p : Int)
                          have HP6 := Lib.hid (HPo.out.put0 (e' := ⟨ynm, ms.set q { m with n := (p : Int) }, labsI yst.labs, placesI yst.labs, yst.code.map goalI, yst.code.map callI⟩) Hd.out hset.2 hset.1)
                          have HB6 : Hid (Below w.heap.size w (Wo.setCell ⟨cb', q * 5 + 4, none⟩ (.int .i64 (p : Int)))) := Lib.hid (HBw.out.trans (hset.2.below HBw.out.size fun k hk => Hpo.out.low hk))
                          have HL6 := Lib.hid (HL.out.next Hz.out Hcl.out Hfp.out Hm.out)
                          clear hfp hmo hcf hset
                          go_wp2_with fail
                          go_roundg gq
                          case measure => omega
                          case rel => exact ⟨q + 1, _, by go_num, by omega, HL6, Lib.hid (by have h := HP6.out; rw [List.set_set] at h; exact h), HB6⟩
                      · have hjv : (((r + 1 : Nat) : Int) - 1) = (r : Int) := by omega
                        rw [hjv]
                        clear hjv
                        have rs : r < sn := by omega
                        obtain ⟨d', hd'⟩ : ∃ d', ds[r]? = some d' := ⟨ds[r]'(by rw [← Hsn.out]; exact rs), List.getElem?_eq_getElem _⟩
                        obtain ⟨e', he', hpe⟩ := HPo.out.pcs.of hd'
                        have hnm : names[r]? = some e'.name := by rw [← HNs.out, List.getElem?_map, he']; rfl
                        obtain ⟨b', c', hbe, _, _, hbc'⟩ := (show OwnPc Wo w.heap.size (.slice (some ⟨b, 0, none⟩) ds.length sc) ds from by rw [← Hsn.out]; exact HPo.out.ptrs).at_ hd'
                        have hbb : b' = b := by
                          have h1 := (Value.slice.inj hbe).1
                          injection h1 with h1
                          injection h1 with h1
                          exact h1.symm
                        rw [hbb] at hbc'
                        have hn0 : Wo.cell? ⟨d'.bx, 0, none⟩ = some (.string (mkS e'.name)) := hpe.blk.cell 0
                        have hk5 : Wo.cell? ⟨d.bx, 5, none⟩ = some (.slice (some ⟨kb, 0, none⟩) cn kc) := by rw [← Hkv.out]; exact Hpo.out.blk.cell 5
                        have hkc : Wo.cell? ⟨kb, q, none⟩ = some (.string (mkS cl)) := (bcell HBo.out Hkb.out.1).trans Hkb.out.2
                        have r0 : (r : Int) ≥ 0 := Int.natCast_nonneg r
                        have r00 : (0 : Int) ≤ (r : Int) := Int.natCast_nonneg r
                        have r1 : (r : Int) < (sn : Int) := by omega
                        obtain ⟨dx, hdx⟩ : ∃ dx, d'.bx = dx := ⟨_, rfl⟩
                        obtain ⟨en, hen⟩ : ∃ en, e'.name = en := ⟨_, rfl⟩
                        rw [hdx] at hbc' hn0
                        rw [hen] at hn0 hnm
                        have HFn := Lib.hid (HFd.out.next hnm)
                        clear hd' he' hpe hnm hbe hbb hdx hen
                        by_cases hs : en = cl
                        · subst hs
                          rw [if_pos rfl] at HFn
                          have s1 : ((mkS en).toList == (mkS en).toList) = true := by simp
                          go_wp2_with fail
                          go_quiet (fail)
                          go_wp2_with fail
                          go_roundg r
                          case measure => omega
                          case rel => exact ⟨r, (r : Int), _, rfl, rfl, by go_num, Nat.le_refl _, Nat.le_refl _, by omega, HFn, Lib.hid ⟨HBo.out.os, HBo.out.tape, HBo.out.output, HBo.out.size, HBo.out.block⟩⟩
                        · rw [if_neg hs] at HFn
                          obtain ⟨s1, s2, s3⟩ := str_facts hs
                          go_wp2_with fail
                          go_quiet (fail)
                          go_wp2_with fail
                          go_roundg r
                          case measure => omega
                          case rel => exact ⟨r, t2, _, rfl, rfl, by go_num, Nat.le_refl _, Nat.le_refl _, by omega, HFn, Lib.hid ⟨HBo.out.os, HBo.out.tape, HBo.out.output, HBo.out.size, HBo.out.block⟩⟩
      · have hil : i < ln := by omega
        obtain ⟨l, hl⟩ : ∃ l, (linesL t)[i]? = some l := ⟨(linesL t)[i]'(by rw [Hln.out]; exact hil), List.getElem?_eq_getElem _⟩
        obtain ⟨b, c, hbe, hb1, hb2, hbc⟩ := (show OwnS W2 W1.heap.size (.slice lA (linesL t).length lc) (linesL t) from by rw [Hln.out]; exact HOwn.out).at_ hl
        have ge1 : lA = some ⟨b, 0, none⟩ := (Value.slice.inj hbe).1
        subst ge1
        have hbW : ∀ V : World, OutS (fun k => k = wx) W2 V → V.cell? ⟨b, i, none⟩ = some (.string (mkS l)) := fun V hV => by
          have h : V.heap[b]? = W2.heap[b]? := hV.block b hb2 (fun h => by have := Hzb.out; omega)
          unfold World.cell? at hbc ⊢
          rw [h]
          exact hbc
        have HbW := Lib.hid hbW
        have hcell := hbW wr HOi.out
        have hlz : l.length ≤ 900000 := Nat.le_trans (lines_size (List.mem_of_getElem? hl)) (by rw [Hn.out]; omega)
        obtain ⟨n1, n2, n3⟩ := HT.out.next hl hlz
        have HN := Lib.hid (And.intro n1 (And.intro n2 n3))
        have HFt : Hid (l ≠ [] → ∀ rc : Int, (wlineP x l).1 = rc → rc ≠ 0 → wholeP t = (([], []), (rc, (i : Int)))) := Lib.hid (fun hne rc hrc h0 => by
          have hst := n3 hne (by rw [hrc]; exact h0)
          unfold wholeP
          rw [if_neg HRd.out, hst, if_pos (by show ¬ _ = 0; rw [hrc]; exact h0), hrc])
        have Hl := Lib.hid hl
        have Hlz := Lib.hid hlz
        have HW := Lib.hid (WordsOf_any l (by omega) wr)
        have k0 : (0 : Int) ≤ (i : Int) := Int.natCast_nonneg i
        have k1 : (i : Int) < (ln : Int) := by omega
        have hmem := List.mem_of_getElem? hl
        have Hmem := Lib.hid hmem
        clear hl hbe hb1 hb2 hbc n1 n2 n3 hlz hbW hmem
        go_upto_region 10 with fail
        refine HW.out.mono ?_
        rintro e W3 ⟨⟨wv, rfl, hwv⟩, hb3⟩
        obtain ⟨wA, wc, hwe⟩ := hwv.len
        subst hwe
        obtain ⟨m, hm⟩ : ∃ m, (wordsP l).length = m := ⟨_, rfl⟩
        rw [hm] at hwv ⊢
        have Hm := Lib.hid hm
        have HWv := Lib.hid hwv
        have HP3 := Lib.hid (HPi.out.below hb3)
        have HO3 : Hid (OutS (fun k => k = wx) W2 W3) := Lib.hid (HOi.out.trans (outS_of (S := fun k => k = wx) hb3) fun _ _ h => h)
        have HB3 : Hid (Below w.heap.size w W3) := Lib.hid (HBi.out.trans (hb3.mono HBi.out.size))
        have Hz3 : Hid (W2.heap.size ≤ wr.heap.size ∧ wr.heap.size ≤ W3.heap.size ∧ w.heap.size ≤ wr.heap.size) := Lib.hid ⟨HOi.out.size, hb3.size, HBi.out.size⟩
        clear hwv hb3 hm HW HPi HOi HBi hcell
        by_cases hnil : l = []
        · subst hnil
          have HTn := Lib.hid (HN.out.1 rfl)
          have hm0 : m = 0 := by rw [← Hm.out]; rfl
          subst hm0
          go_wp2_with fail
          go_roundg gk
          case measure => omega
          case rel => exact ⟨i + 1, x, gA, gn, gc, sA, sn, sc, gl, ds, rfl, by go_num, by omega, HTn, HCg, HP3, HIi, HO3⟩
        · have hok := lines_ok Hmem.out hnil
          obtain ⟨wa, wr0, hcons⟩ := words_ne hok
          have hF := HFt.out hnil
          have HFe := Lib.hid hF
          have HOk := Lib.hid hok
          have hW0 : (wordsP l)[0]? = some wa := by rw [hcons]; rfl
          have hga : (wordsP l).getD 0 [] = wa := by rw [hcons]; rfl
          have hm0 : 0 < m := by rw [← Hm.out, hcons]; simp
          obtain ⟨wb, wc', hwe, hwb1, hwb2, hwb3⟩ := (show OwnS W3 wr.heap.size (.slice wA (wordsP l).length wc) (wordsP l) from by rw [Hm.out]; exact HWv.out).at_ hW0
          have ge2 : wA = some ⟨wb, 0, none⟩ := (Value.slice.inj hwe).1
          subst ge2
          have HWl : Hid ((wordsP l).length ≤ 900001 ∧ ∀ y ∈ wordsP l, y.length ≤ 900000) := Lib.hid (by
            have h := wordsU_size l []
            refine ⟨by unfold wordsP; have := h.1; have := Hlz.out; omega, fun y hy => ?_⟩
            have := h.2 y hy
            have := Hlz.out
            simp at *
            omega)
          have Hnil := Lib.hid hnil
          have HNx : Hid ((wlineP x l).1 = 0 → WStepsTo (linesL t) (i + 1) (wlineP x l).2 ∧ WCalls (wlineP x l).2) := Lib.hid fun h => ⟨HN.out.2.1 hnil h, wline_calls HCg.out.1⟩
          have Hwb := Lib.hid (And.intro hwb1 hwb2)
          have Hga := Lib.hid hga
          have km : (0 : Int) < (m : Int) := by omega
          have km0 : ((m : Int) == 0) = false := by rw [beq_eq_false_iff_ne]; omega
          clear hok hcons hF hW0 hga hwe hwb1 hwb2 hnil
          by_cases hg : wa = globW
          · subst hg
            have q1 : ((mkS globW).toList == [103, 108, 111, 98, 97, 108]) = true := by rw [mkS_toList]; rfl
            have HR : Hid (wlineP x l = if x.secs ≠ [] then ((1 : Int), x) else globRes x (wordsP l)) := Lib.hid (by unfold wlineP; rw [if_pos Hga.out]; rfl)
            have HRg := Lib.hid (readGlobal_any (wordsP l) (.slice (some ⟨wb, 0, none⟩) m wc) wr.heap.size W3 HWv.out (by have := HWl.out.1; omega) (fun y hy => by have := HWl.out.2 y hy; omega))
            go_wp2_with fail
            refine HRg.out.mono ?_
            rintro e W4 ⟨⟨gnm, gsz, iA, iN, iC, ok, rfl, hok, hgp⟩, hb4⟩
            have hb5 : Below W3.heap.size W3 (W4.alloc (.cells #[.string gnm, .int .i64 gsz, .slice iA iN iC] 79)) := hb4.alloc hb4.size _
            have HP5 := Lib.hid (HP3.out.below hb5)
            have HO5 : Hid (OutS (fun k => k = wx) W2 (W4.alloc (.cells #[.string gnm, .int .i64 gsz, .slice iA iN iC] 79))) := Lib.hid (HO3.out.trans (outS_of (S := fun k => k = wx) hb5) fun _ _ h => h)
            have HB5 := Lib.hid (HB3.out.trans (hb5.mono HB3.out.size))
            have HG5 : Hid (Blk (W4.alloc (.cells #[.string gnm, .int .i64 gsz, .slice iA iN iC] 79)) W4.heap.size 79 #[.string gnm, .int .i64 gsz, .slice iA iN iC]) := Lib.hid (Blk.new _ _ _)
            have Hok := Lib.hid hok
            have Hgp : Hid (∀ g, globP (wordsP l) = some g → gnm = g.name ∧ gsz = g.size ∧ OwnInts (W4.alloc (.cells #[.string gnm, .int .i64 gsz, .slice iA iN iC] 79)) w.heap.size (.slice iA iN iC) g.init) := Lib.hid fun g hg => by
              obtain ⟨e1, e2, e3⟩ := hgp g hg
              exact ⟨e1, e2, World.ownsRow.alloc (OwnInts.more e3 (by have := Hz3.out; omega)) _⟩
            have Hz5 : Hid (W2.heap.size ≤ W4.heap.size) := Lib.hid (by have := Hz3.out; have := hb4.size; omega)
            clear hok hgp hb4 hb5 HRg hwb3 q1
            go_upto_region 14 with fail
            generalize W4.alloc (.cells #[.string gnm, .int .i64 gsz, .slice iA iN iC] 79) = W5 at *
            generalize W4.heap.size = g10 at *
            have HGo : Hid (W5.ownsRow w.heap.size 79 3 (.slice gA gn gc) gn (globCells gl)) := Lib.hid (by have h := HP5.out.globs.row; rw [← Hgn.out] at h; exact h)
            have HBk : Hid (Blk W5 wx 43 #[.slice gA gn gc, .slice none 0 0]) := Lib.hid HP5.out.blk
            have hgnl : gn ≤ 1000000 := by have := Hgx.out; have := HT.out.2.1; omega
            have HBz := Lib.hid HB5.out.size
            have v0 := HG5.out.cell 0
            have v1 := HG5.out.cell 1
            have v2 := HG5.out.cell 2
            have u0 := HBk.out.cell 0
            by_cases hgood : ok = true ∧ sn = 0
            · obtain ⟨hokt, hs0⟩ := hgood
              subst hokt
              have hs0' : ¬ (sn : Int) > 0 := by omega
              have hds : ds = [] := List.eq_nil_of_length_eq_zero (by rw [← Hsn.out]; omega)
              have hse : x.secs = [] := List.eq_nil_of_length_eq_zero (by rw [← Hsx.out]; omega)
              subst hds
              obtain ⟨g, hgp⟩ : ∃ g, globP (wordsP l) = some g := Option.isSome_iff_exists.1 Hok.out
              obtain ⟨e1, e2, hiv⟩ := Hgp.out g hgp
              have HE : Hid (wlineP x l = (0, ⟨x.globs ++ [g], x.secs⟩)) := Lib.hid (by rw [HR.out, if_neg (fun h => h hse), globRes_some hgp])
              have HIv := Lib.hid hiv
              have Hse := Lib.hid hse
              have Hgnm := Lib.hid (And.intro e1 e2)
              have HPn : Hid (PWh W5 w.heap.size wx w.heap.size gf (.slice gA gn gc) (.slice sA sn sc) (.slice none 0 0) gl [] [] []) := Lib.hid (by have h := HP5.out; rw [hse] at h; exact h)
              clear hgp hiv Hok Hgp hse hs0 e1 e2
              go_upto_region 24 with (at_builtin; refine app_one rfl _ _ 40 79 rfl (.agg #[.string ⟨#[]⟩, .int .i64 0, .slice none 0 0]) 3 48 Tryz.underlying40 infoGlob rfl (by decide) (by decide) w.heap.size _ _ _ (by rfl) HGo.out _ [.string gnm, .int .i64 gsz, .slice iA iN iC] (by rfl) rfl (fun x hx => by simp at hx; rcases hx with rfl | rfl | rfl <;> rfl) rfl (by omega) HBz.out ?_; intro v6 w6 HA6; obtain ⟨B6, c6, e6⟩ := row_form HA6.out.own; subst e6; have hb6 := HA6.out.blk HGo.out HBk.out (by decide); have m0 := hb6.cell 0; have f0 := hb6.frozen 0; simp only [List.getElem?_toArray, List.getElem?_cons_zero] at m0)
              have hadd := HPn.out.addGlob (g := g) (iv := .slice iA iN iC) (gv' := .slice B6 (gn + 1) c6) (by rw [← Hgn.out, ← Hgnm.out.1, ← Hgnm.out.2]; exact HA6.out) (by omega) HIv.out
              have HAdd := Lib.hid hadd
              have HTn := Lib.hid (HNx.out (by rw [HE.out]))
              rw [HE.out] at HTn
              clear hadd hb6 m0 f0
              go_wp2_with fail
              go_roundg gk
              case measure => omega
              case rel => exact ⟨i + 1, _, B6, gn + 1, c6, sA, sn, sc, gl ++ [(g, .slice iA iN iC)], [], rfl, by go_num, by omega, Lib.hid HTn.out.1, Lib.hid ⟨HTn.out.2, by rw [List.map_append, HCg.out.2]; rfl⟩, Lib.hid (by have h := HAdd.out.1; show PWh _ _ _ _ _ _ _ _ _ _ (x.secs.map entP) _; rw [Hse.out]; exact h), Lib.hid (fun k hk => (HAdd.out.2.2 k hk).elim (HIi.out k) fun h => .inr (by have := HO5.out.size; omega)), Lib.hid (HO5.out.trans HAdd.out.2.1 fun k hk h => (HIi.out k h).elim id fun h => by omega)⟩
            · have HE : Hid (wholeP t = (([], []), (1, (i : Int)))) := Lib.hid (HFe.out 1 (by
                rw [HR.out]
                split
                · rfl
                · rename_i h
                  rw [globRes_none (by
                    cases hgp : globP (wordsP l) with
                    | none => rfl
                    | some g =>
                      rw [hgp] at Hok
                      exact absurd ⟨Hok.out.symm, by rw [Hsx.out, Classical.not_not.1 h]; rfl⟩ hgood)]) (by decide))
              have hk : ok = false ∨ (ok = true ∧ (sn : Int) > 0) := by
                cases ok with
                | false => exact .inl rfl
                | true => exact .inr ⟨rfl, by have : sn ≠ 0 := fun e => hgood ⟨rfl, e⟩; omega⟩
              clear hgood Hok Hgp
              rcases hk with rfl | ⟨rfl, hs0'⟩
              all_goals
                go_upto_region 24 with (at_builtin; refine app_one rfl _ _ 40 79 rfl (.agg #[.string ⟨#[]⟩, .int .i64 0, .slice none 0 0]) 3 48 Tryz.underlying40 infoGlob rfl (by decide) (by decide) w.heap.size _ _ _ (by rfl) HGo.out _ [.string gnm, .int .i64 gsz, .slice iA iN iC] (by rfl) rfl (fun x hx => by simp at hx; rcases hx with rfl | rfl | rfl <;> rfl) rfl (by omega) HBz.out ?_; intro v6 w6 HA6; obtain ⟨B6, c6, e6⟩ := row_form HA6.out.own; subst e6; have hb6 := HA6.out.blk HGo.out HBk.out (by decide); have m0 := hb6.cell 0; have f0 := hb6.frozen 0; simp only [List.getElem?_toArray, List.getElem?_cons_zero] at m0)
                have HR7 : Hid (Blk (w6.setCell ⟨wx, 0, none⟩ (.slice B6 (gn + 1) c6)) w.heap.size 43 #[.slice none 0 0, .slice none 0 0]) := Lib.hid ((HA6.out.blk HGo.out HP5.out.res (by decide)).far HP5.out.ne _)
                have HX7 : Hid (Blk (w6.setCell ⟨wx, 0, none⟩ (.slice B6 (gn + 1) c6)) gf 24 #[.int .i64 0, .int .i64 0]) := Lib.hid ((HA6.out.blk HGo.out HP5.out.flt (by decide)).far (by show gf ≠ wx; have := Hwx.out; omega) _)
                have HB7 : Hid (Below w.heap.size w (w6.setCell ⟨wx, 0, none⟩ (.slice B6 (gn + 1) c6))) := Lib.hid ((HB5.out.trans HA6.out.below).setCell HP5.out.ge _)
                clear hb6 m0 f0 HA6 v0 v1 v2 u0
                generalize w6.setCell ⟨wx, 0, none⟩ (.slice B6 (gn + 1) c6) = W7 at *
                have x0 := HR7.out.cell 0
                have x1 := HR7.out.cell 1
                have y0 := HX7.out.cell 0
                have y1 := HX7.out.cell 1
                have f0 := HR7.out.frozen 0
                have f1 := HR7.out.frozen 1
                have z0 := HX7.out.frozen 0
                have z1 := HX7.out.frozen 1
                go_wp2_with fail
                exact rwhole_bad (by rfl) (by rfl) (by rfl) HR7.out HX7.out (Nat.le_refl _) (by have := Hgf.out; omega) HB7.out HE.out (SameMem.refl _)
          · have q1 : ((mkS wa).toList == [103, 108, 111, 98, 97, 108]) = false := by rw [mkS_toList]; exact beq_false_of_ne hg
            by_cases hr : wa = routW
            · subst hr
              have q2 : ((mkS routW).toList == [114, 111, 117, 116, 105, 110, 101]) = true := by rw [mkS_toList]; rfl
              have HR : Hid (wlineP x l = if (wordsP l).length = 2 ∧ nameS (mkS ((wordsP l).getD 1 [])) = true then ((0 : Int), ⟨x.globs, x.secs ++ [⟨(wordsP l).getD 1 [], ⟨[], []⟩⟩]⟩) else (1, x)) := Lib.hid (by unfold wlineP; rw [if_neg (by rw [Hga.out]; exact hg), if_pos Hga.out])
              have x0 := HP3.out.res.cell 0
              have x1 := HP3.out.res.cell 1
              have y0 := HP3.out.flt.cell 0
              have y1 := HP3.out.flt.cell 1
              have f0 := HP3.out.res.frozen 0
              have f1 := HP3.out.res.frozen 1
              have z0 := HP3.out.flt.frozen 0
              have z1 := HP3.out.flt.frozen 1
              by_cases h2 : m = 2
              · subst h2
                obtain ⟨nm, hnm⟩ : ∃ nm, (wordsP l)[1]? = some nm := ⟨(wordsP l)[1]'(by rw [Hm.out]; decide), List.getElem?_eq_getElem _⟩
                have hgd : (wordsP l).getD 1 [] = nm := by rw [List.getD_eq_getElem?_getD, hnm]; rfl
                obtain ⟨b', c', hbe, _, _, hbn⟩ := (show OwnS W3 wr.heap.size (.slice (some ⟨wb, 0, none⟩) (wordsP l).length wc) (wordsP l) from by rw [Hm.out]; exact HWv.out).at_ hnm
                have hb' : b' = wb := by have h1 := (Value.slice.inj hbe).1; injection h1 with h1; injection h1 with h1; exact h1.symm
                rw [hb'] at hbn
                have HNm := Lib.hid (GoodName_any (mkS nm) W3 (by rw [mkS_size]; have := HWl.out.2 nm (List.mem_of_getElem? hnm); omega))
                have hlitN : ¬ ((2 : Nat) : Int) ≠ 2 := by decide
                have kk1 : (1 : Int) < ((2 : Nat) : Int) := by decide
                obtain ⟨ok, hok⟩ : ∃ ok, nameS (mkS nm) = ok := ⟨_, rfl⟩
                have HE : Hid (wlineP x l = if ok = true then ((0 : Int), ⟨x.globs, x.secs ++ [⟨nm, ⟨[], []⟩⟩]⟩) else (1, x)) := Lib.hid (by
                  rw [HR.out, hgd, hok, Hm.out]
                  cases ok <;> simp)
                rw [hok] at HNm
                clear hnm hgd hbe hb' hok HR
                go_wp2_with fail
                refine HNm.out.mono ?_
                rintro e w1 ⟨rfl, rfl⟩
                clear HNm
                cases ok with
                | false =>
                  have HE2 : Hid (wholeP t = (([], []), (1, (i : Int)))) := Lib.hid (HFe.out 1 (by rw [HE.out]; rfl) (by decide))
                  go_wp2_with fail
                  exact rwhole_bad (by rfl) (by rfl) (by rfl) HP3.out.res HP3.out.flt (Nat.le_refl _) (by have := Hgf.out; omega) HB3.out HE2.out (SameMem.refl _)
                | true =>
                  have HE3 : Hid (wlineP x l = (0, ⟨x.globs, x.secs ++ [⟨nm, ⟨[], []⟩⟩]⟩)) := Lib.hid (by rw [HE.out, if_pos rfl])
                  have HPc : Hid (PcOf (W3.alloc (.cells #[.string (mkS nm), .slice none 0 0, .slice none 0 0, .slice none 0 0, .slice none 0 0, .slice none 0 0] 63)) w.heap.size ⟨W3.heap.size, ⟨.slice none 0 0, .slice none 0 0, .slice none 0 0, .slice none 0 0, .slice none 0 0⟩⟩ (entP ⟨nm, ⟨[], []⟩⟩)) := Lib.hid (Pie.new W3 w.heap.size HB3.out.size nm)
                  have hb34 : Below W3.heap.size W3 (W3.alloc (.cells #[.string (mkS nm), .slice none 0 0, .slice none 0 0, .slice none 0 0, .slice none 0 0, .slice none 0 0] 63)) := (Below.refl _ _).alloc (Nat.le_refl _) _
                  have HP4 := Lib.hid (HP3.out.below hb34)
                  have HB4 := Lib.hid (HB3.out.trans (hb34.mono HB3.out.size))
                  have HO4 : Hid (OutS (fun k => k = wx) W2 (W3.alloc (.cells #[.string (mkS nm), .slice none 0 0, .slice none 0 0, .slice none 0 0, .slice none 0 0, .slice none 0 0] 63))) := Lib.hid (HO3.out.trans (outS_of (S := fun k => k = wx) hb34) fun _ _ h => h)
                  have Hz4 : Hid ((W3.alloc (.cells #[.string (mkS nm), .slice none 0 0, .slice none 0 0, .slice none 0 0, .slice none 0 0, .slice none 0 0] 63)).heap.size = W3.heap.size + 1) := Lib.hid (by simp)
                  have HGo : Hid ((W3.alloc (.cells #[.string (mkS nm), .slice none 0 0, .slice none 0 0, .slice none 0 0, .slice none 0 0, .slice none 0 0] 63)).ownsRow w.heap.size 61 1 (.slice sA sn sc) sn (ptrsP ds)) := Lib.hid (by have h := HP4.out.ptrs; unfold OwnPc at h; rw [← Hsn.out] at h; exact h)
                  have hsnl : sn ≤ 1000000 := by have := Hsx.out; have := HT.out.2.2.1; omega
                  have HBz := Lib.hid HB4.out.size
                  clear hb34 x0 x1 y0 y1 f0 f1 z0 z1
                  go_upto_region 24 with (at_builtin; refine app_one rfl _ _ 77 61 rfl (.pointer none) 1 8 Tryz.underlying77 infoPcP rfl (by decide) (by decide) w.heap.size _ _ _ (by rfl) HGo.out (W3.heap.size + 1) [.pointer (some ⟨W3.heap.size, 0, none⟩)] (by rfl) rfl (fun x hx => by simp at hx; subst hx; rfl) (by simp) (by omega) HBz.out ?_; intro v6 w6 HA6; obtain ⟨B6, c6, e6⟩ := row_form HA6.out.own; subst e6)
                  have hin : ∀ k, PcD.In ⟨W3.heap.size, ⟨.slice none 0 0, .slice none 0 0, .slice none 0 0, .slice none 0 0, .slice none 0 0⟩⟩ k → k = W3.heap.size := fun k h => by
                    rcases h with h | h | h | h | h | h
                    · exact h
                    all_goals cases h
                  have hadd := HP4.out.addPc (d := ⟨W3.heap.size, ⟨.slice none 0 0, .slice none 0 0, .slice none 0 0, .slice none 0 0, .slice none 0 0⟩⟩) (e := entP ⟨nm, ⟨[], []⟩⟩) (sv' := .slice B6 (sn + 1) c6) (w' := w6) (H := W3.heap.size + 1 + 1) (by rw [← Hsn.out]; exact HA6.out) (by have := Hz4.out; omega) HPc.out (fun k h1 h2 => by have := hin k h1; have := HP3.out.pcs.lt h2; omega) (fun g hg' k h1 h2 => by have := hin k h2; have := own_lt (HP3.out.globs.inits g hg') h1; omega) (M := wr.heap.size) (by have := Hz3.out; have := Hz4.out; omega) (fun k h => by have := hin k h; have := Hz3.out; omega)
                  have HAdd := Lib.hid hadd
                  have HTn := Lib.hid (HNx.out (by rw [HE3.out]))
                  rw [HE3.out] at HTn
                  clear hadd hin
                  go_wp2_with fail
                  go_roundg gk
                  case measure => omega
                  case rel => exact ⟨i + 1, _, gA, gn, gc, B6, sn + 1, c6, gl, ds ++ [⟨W3.heap.size, ⟨.slice none 0 0, .slice none 0 0, .slice none 0 0, .slice none 0 0, .slice none 0 0⟩⟩], rfl, by go_num, by omega, Lib.hid HTn.out.1, Lib.hid ⟨HTn.out.2, HCg.out.2⟩, Lib.hid (by have h := HAdd.out.1; show PWh _ _ _ _ _ _ _ _ _ _ ((x.secs ++ [(⟨nm, ⟨[], []⟩⟩ : SecP)]).map entP) _; rw [List.map_append]; exact h), Lib.hid (fun k hk => (HAdd.out.2.2 k hk).elim (HIi.out k) fun h => .inr (by have := Hz3.out; omega)), Lib.hid (HO4.out.trans HAdd.out.2.1 fun k hk h => (HIi.out k h).elim id fun h => by omega)⟩
              · have hm2 : ((m : Int) != 2) = true := by rw [bne_iff_ne]; omega
                have hm3 : ((m : Int) == 2) = false := by rw [beq_eq_false_iff_ne]; omega
                have HE : Hid (wholeP t = (([], []), (1, (i : Int)))) := Lib.hid (HFe.out 1 (by rw [HR.out, if_neg (fun h => h2 (by rw [← Hm.out]; exact h.1))]) (by decide))
                clear h2
                go_wp2_with fail
                exact rwhole_bad (by rfl) (by rfl) (by rfl) HP3.out.res HP3.out.flt (Nat.le_refl _) (by have := Hgf.out; omega) HB3.out HE.out (SameMem.refl _)
            · have q2 : ((mkS wa).toList == [114, 111, 117, 116, 105, 110, 101]) = false := by rw [mkS_toList]; exact beq_false_of_ne hr
              have HR : Hid (wlineP x l = lastLineP x l) := Lib.hid (by unfold wlineP; rw [if_neg (by rw [Hga.out]; exact hg), if_neg (by rw [Hga.out]; exact hr)])
              by_cases hs0 : sn = 0
              · subst hs0
                have HE : Hid (wholeP t = (([], []), (1, (i : Int)))) := Lib.hid (HFe.out 1 (by rw [HR.out]; unfold lastLineP; rw [List.eq_nil_of_length_eq_zero Hsx.out.symm]; rfl) (by decide))
                have x0 := HP3.out.res.cell 0
                have x1 := HP3.out.res.cell 1
                have y0 := HP3.out.flt.cell 0
                have y1 := HP3.out.flt.cell 1
                have f0 := HP3.out.res.frozen 0
                have f1 := HP3.out.res.frozen 1
                have z0 := HP3.out.flt.frozen 0
                have z1 := HP3.out.flt.frozen 1
                go_wp2_with fail
                exact rwhole_bad (by rfl) (by rfl) (by rfl) HP3.out.res HP3.out.flt (Nat.le_refl _) (by have := Hgf.out; omega) HB3.out HE.out (SameMem.refl _)
              · have hsn0 : ((sn : Int) == 0) = false := by rw [beq_eq_false_iff_ne]; omega
                obtain ⟨d, hd⟩ : ∃ d, ds[sn - 1]? = some d := ⟨ds[sn - 1]'(by rw [← Hsn.out]; omega), List.getElem?_eq_getElem _⟩
                obtain ⟨y, hy⟩ : ∃ y, x.secs.getLast? = some y := by
                  cases h : x.secs.getLast? with
                  | none => rw [List.getLast?_eq_none_iff] at h; rw [h] at Hsx; exact absurd Hsx.out hs0
                  | some y => exact ⟨y, rfl⟩
                have hyi : x.secs[sn - 1]? = some y := by rw [List.getLast?_eq_getElem?, ← Hsx.out] at hy; exact hy
                have hpd : PcOf W3 w.heap.size d (entP y) := HP3.out.pcs.each (sn - 1) d (entP y) hd (by rw [List.getElem?_map, hyi]; rfl)
                obtain ⟨b2, c2, hbe, _, hb2, hbp⟩ := (show OwnPc W3 w.heap.size (.slice sA ds.length sc) ds from by rw [← Hsn.out]; exact HP3.out.ptrs).at_ hd
                have hA : sA = some ⟨b2, 0, none⟩ := (Value.slice.inj hbe).1
                subst hA
                have hyk := HT.out.2.2.2.2 y (List.mem_of_getLast? hy)
                have hpd2 : Pie W3.drew w.heap.size d.bx y.name y.st d.v := PieM.stay hpd fun _ _ => rfl
                have HL2 := Lib.hid (pline_any true l Hlz.out HOk.out W3.drew hpd2 HB3.out.size (by have := hyk.2.2.2; omega) (by have := hyk.2.2.1; omega))
                have HE : Hid (wlineP x l = ((lineP true y.st l).1, ⟨x.globs, x.secs.set (sn - 1) ⟨y.name, (lineP true y.st l).2⟩⟩)) := Lib.hid (by rw [HR.out]; unfold lastLineP; rw [hy]; simp only; rw [set_lastW hy, Hsx.out])
                have kw : wrap64 ((sn : Int) - 1) = ((sn - 1 : Nat) : Int) := by
                  rw [IntWalk.wrap64_in _ (by have := Hsx.out; have := HT.out.2.2.1; omega)]
                  omega
                obtain ⟨k, hk⟩ : ∃ k, sn - 1 = k := ⟨_, rfl⟩
                rw [hk] at kw hbp
                have kw2 : IntKind.i64.wrap ((sn : Int) - 1) = (k : Int) := (IntWalk.i64_left _).trans kw
                have Hk := Lib.hid hk
                have hkn : (k : Int) < (sn : Int) := by omega
                have hk0 : (0 : Int) ≤ (k : Int) := Int.natCast_nonneg k
                have Hd := Lib.hid hd
                have Hpd := Lib.hid hpd
                have hcl := HbW.out W3 HO3.out
                obtain ⟨rc, hrc⟩ : ∃ rc, (lineP true y.st l).1 = rc := ⟨_, rfl⟩
                have Hrc := Lib.hid hrc
                clear hd hy hyi hpd hbe hb2 hyk hpd2 hs0 hk hrc
                go_wp2_with fail
                go_still_tail 10, (by kernel_rfl)
                go_wp2_with fail
                refine HL2.out.mono ?_
                rintro e W4 ⟨rfl, ho, hsec⟩
                rw [Hrc.out] at hsec ⊢
                have HO := Lib.hid (show OutS d.In W3 W4 from ho.drewn)
                have HSc := Lib.hid hsec
                have HB4 : Hid (Below w.heap.size w W4) := Lib.hid (HB3.out.trans (HO.out.below HB3.out.size fun k hk => Hpd.out.low hk))
                clear ho hsec HL2
                by_cases h0 : rc = 0
                · subst h0
                  obtain ⟨v', hm3, hk3⟩ := HSc.out rfl
                  have hput := HP3.out.put (d' := ⟨d.bx, v'⟩) (e' := entP ⟨y.name, (lineP true y.st l).2⟩) Hd.out HO.out hm3 rfl hk3
                  have HPut := Lib.hid hput
                  have HTn := Lib.hid (HNx.out (by rw [HE.out]; exact Hrc.out))
                  rw [HE.out] at HTn
                  clear hm3 hk3 hput
                  go_wp2_with fail
                  go_roundg gk
                  case measure => omega
                  case rel => exact ⟨i + 1, _, gA, gn, gc, some ⟨b2, 0, none⟩, sn, sc, gl, ds.set (sn - 1) ⟨d.bx, v'⟩, rfl, by go_num, by omega, Lib.hid HTn.out.1, Lib.hid ⟨HTn.out.2, HCg.out.2⟩, Lib.hid (by have h := HPut.out.1; show PWh _ _ _ _ _ _ _ _ _ _ ((x.secs.set (sn - 1) ⟨y.name, (lineP true y.st l).2⟩).map entP) _; rw [List.map_set]; exact h), Lib.hid (fun k hk => (HPut.out.2.2 k hk).elim (HIi.out k) fun h => .inr (by have := HO3.out.size; omega)), Lib.hid (HO3.out.trans HPut.out.2.1 fun k hk h => (HIi.out k h).elim id fun h => by omega)⟩
                · have hub : (rc == 0) = false := by simpa using h0
                  have HE2 : Hid (wholeP t = (([], []), (rc, (i : Int)))) := Lib.hid (HFe.out rc (by rw [HE.out]; exact Hrc.out) h0)
                  have HX4 : Hid (Blk W4 gf 24 #[.int .i64 0, .int .i64 0]) := Lib.hid ((HO.out.block _ HP3.out.flt.lt (Hpd.out.far HP3.out.flt (by decide) (by decide) (by decide) (by decide))).trans HP3.out.flt)
                  have HI4 : Hid (Blk W4 w.heap.size 43 #[.slice none 0 0, .slice none 0 0]) := Lib.hid ((HO.out.block _ HP3.out.res.lt (Hpd.out.far HP3.out.res (by decide) (by decide) (by decide) (by decide))).trans HP3.out.res)
                  have x0 := HI4.out.cell 0
                  have x1 := HI4.out.cell 1
                  have y0 := HX4.out.cell 0
                  have y1 := HX4.out.cell 1
                  have f0 := HI4.out.frozen 0
                  have f1 := HI4.out.frozen 1
                  have z0 := HX4.out.frozen 0
                  have z1 := HX4.out.frozen 1
                  clear h0
                  go_wp2_with fail
                  exact rwhole_bad (by rfl) (by rfl) (by rfl) HI4.out HX4.out (Nat.le_refl _) (by have := Hgf.out; omega) HB4.out HE2.out (SameMem.refl _)
end Go.Proofs.YtdldochhondifaaGreatDoor
