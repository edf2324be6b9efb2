/-
  The reference's text of an image.
  Conditions: none.
-/
import Derived.Test.YtdldochhondifaaDoorAsL
import Derived.Test.YtdldochhondifaaDoorInk
import Derived.Deep.QuietTactic
import Derived.BigQuiet
namespace Go.Proofs.YtdldochhondifaaDoor
open Go.RowKit
attribute [local go_sem] Oper.semAt_some

theorem own_strs {w : World} {B : Nat} {v : Value} {ss : List (List UInt8)} (h : OwnS w B v ss) (hl : 0 < ss.length) : ∃ g c, v = .slice (some ⟨g, 0, none⟩) ss.length c ∧ B ≤ g ∧ g < w.heap.size ∧ ss.length ≤ c ∧ ∀ (j : Nat) (x : List UInt8), ss[j]? = some x → w.cell? ⟨g, j, none⟩ = some (.string (mkS x)) := by
  rcases h.2 with ⟨_, h0⟩ | ⟨g, cap, cur, rfl, hb, hh, hnc, hcm, hsz, htk⟩
  · omega
  · refine ⟨g, cap, rfl, hb, (Array.getElem?_eq_some_iff.1 hh).1, hnc, fun j y hy => ?_⟩
    have hc : w.cell? ⟨g, j, none⟩ = cur[j]? := cell_of_row w g j cur 9 (0, 0) hh
    rw [hc]
    have hx : (cur.toList.take (ss.length * 1))[j]? = some (Value.string (mkS y)) := by
      rw [htk, List.getElem?_map, hy]
      rfl
    rw [List.getElem?_take] at hx
    split at hx
    · simpa using hx
    · cases hx
theorem OwnS.strs {w : World} {B : Nat} {v : Value} {ss : List (List UInt8)} (h : OwnS w B v ss) : StrsAt w w.heap.size v ss := by
  rcases Nat.eq_zero_or_pos ss.length with h0 | h0
  · obtain rfl := List.eq_nil_of_length_eq_zero h0
    rcases h.2 with ⟨rfl, _⟩ | ⟨g, cap, cur, rfl, hb, hh, hnc, hcm, _⟩
    · exact StrsAt.nil _ _
    · exact ⟨_, cap, rfl, by simp, by unfold maxLen at hcm; omega, fun h => by simp at h⟩
  · obtain ⟨g, c, rfl, h1, h2, h3, h4⟩ := own_strs h h0
    rcases h.2 with ⟨e, _⟩ | ⟨g', cap, cur, e, hb, hh, hnc, hcm, _⟩
    · cases e
    · cases e
      exact ⟨_, c, rfl, h3, by unfold maxLen at hcm; omega, fun _ => ⟨g, 0, rfl, h2, fun k x hk => by rw [Nat.zero_add]; exact h4 k x hk⟩⟩
set_option maxRecDepth 100000 in
set_option maxHeartbeats 16000000 in
theorem RApart_any (gv rv : Value) (gs : List Glob) (rs : List Rout) (w : World) (hg : GlobsAt w w.heap.size gv gs) (hr : RoutsAt w w.heap.size rv rs) (hgo : GOk gs) (hro : ROk rs) (hgi : GIn gs) :
    Calls Tryd.prog 8 #[.agg #[gv, rv]] w fun e w' => e = .returned (.tuple #[.string (mkS (apartF gs rs)), .agg #[.int .i64 (machF gs rs).1, .int .i64 (machF gs rs).2]]) ∧ Below w.heap.size w w' := by
  have HG := Lib.hid hg
  have HR := Lib.hid hr
  have Hgo := Lib.hid hgo
  have Hro := Lib.hid hro
  have Hgi := Lib.hid hgi
  obtain ⟨uc, ua, hun⟩ : ∃ uc ua, machF gs rs = (uc, ua) := ⟨_, _, rfl⟩
  have Hun := Lib.hid hun
  rw [hun]
  obtain ⟨B, hB⟩ : ∃ B, w.heap.size = B := ⟨_, rfl⟩
  have Hw := Lib.hid hB
  have HI0 : Hid (Blk ((w.alloc (.cells #[gv, rv] 31)).alloc (.cells #[.int .i64 0, .int .i64 0] 24)) B 31 #[gv, rv]) := Lib.hid (by rw [← hB]; exact (Blk.new w _ _).alloc _)
  have HX0 : Hid (Blk ((w.alloc (.cells #[gv, rv] 31)).alloc (.cells #[.int .i64 0, .int .i64 0] 24)) (B + 1) 24 #[.int .i64 0, .int .i64 0]) := Lib.hid (by simpa [← hB] using Blk.new (w.alloc (.cells #[gv, rv] 31)) 24 #[.int .i64 0, .int .i64 0])
  have HB0 : Hid (Below B w ((w.alloc (.cells #[gv, rv] 31)).alloc (.cells #[.int .i64 0, .int .i64 0] 24))) := Lib.hid (by rw [← hB]; exact ((Below.refl _ _).alloc (Nat.le_refl _) _).alloc (by simp) _)
  clear hg hr hgo hro hgi hun
  go_enter Tryd.func8, Tryd.ntmps8
  go_upto_region 1 with fail
  clear hB
  generalize (w.alloc (.cells #[gv, rv] 31)).alloc (.cells #[.int .i64 0, .int .i64 0] 24) = W0 at *
  have i0 := HI0.out.cell 0
  have i1 := HI0.out.cell 1
  have HCk := Lib.hid (MachineCheck_any gv rv gs rs W0 (HG.out.below HB0.out (by rw [Hw.out]; exact Nat.le_refl _) |>.more (by rw [Hw.out]; have := HI0.out.lt; omega)) (HR.out.below HB0.out (by rw [Hw.out]; exact Nat.le_refl _) |>.more (by rw [Hw.out]; have := HI0.out.lt; omega)) Hgo.out Hro.out)
  go_wp2_with fail
  refine HCk.out.mono ?_
  rintro e W1 ⟨rfl, hb1⟩
  rw [Hun.out]
  have hz : B ≤ W0.heap.size := by have := HI0.out.lt; omega
  have HB2 : Hid (Below B w (W1.alloc (.cells #[.int .i64 uc, .int .i64 ua] 24))) := Lib.hid ((HB0.out.trans (hb1.mono hz)).alloc (Nat.le_trans hz hb1.size) _)
  have HX2 := Lib.hid ((HX0.out.below hb1 HX0.out.lt).alloc (.cells #[.int .i64 uc, .int .i64 ua] 24))
  have HI2 := Lib.hid ((HI0.out.below hb1 HI0.out.lt).alloc (.cells #[.int .i64 uc, .int .i64 ua] 24))
  have HF2 : Hid (Blk (W1.alloc (.cells #[.int .i64 uc, .int .i64 ua] 24)) W1.heap.size 24 #[.int .i64 uc, .int .i64 ua]) := Lib.hid (Blk.new _ _ _)
  clear hb1 hz HCk HB0 HX0 HI0 i0 i1
  go_upto_region 2 with fail
  generalize W1.alloc (.cells #[.int .i64 uc, .int .i64 ua] 24) = W2 at *
  generalize W1.heap.size = g4 at *
  have x0 := HF2.out.cell 0
  have x1 := HF2.out.cell 1
  have y0 := HX2.out.cell 0
  have y1 := HX2.out.cell 1
  have hfz := HX2.out.frozen 0
  have hfz1 := HX2.out.frozen 1
  by_cases h0 : uc = 0
  · subst h0
    have hok := img_ok (gs := gs) (rs := rs) (by rw [Hun.out]) Hgo.out Hgi.out Hro.out
    obtain rfl : ua = 0 := by
      have h := machF_pair (gs := gs) (rs := rs) (by rw [Hun.out])
      rw [Hun.out] at h
      injection h
    have Hok := Lib.hid hok
    have HE : Hid (apartF gs rs = globsTo gs gs.length ++ routsTo rs rs.length) := Lib.hid (by unfold apartF; rw [if_pos (by rw [Hun.out])]; rfl)
    have hgl := hok.gl
    have hrl := hok.rl
    have hr0 := hok.r0
    obtain ⟨gA, gc, rfl, gl1, gl2, gl3⟩ := HG.out
    obtain ⟨rA, rc, rfl, rl1, rl2, rl3⟩ := HR.out
    have HGc := Lib.hid gl3
    have HRc := Lib.hid rl3
    obtain ⟨gn, hgn⟩ : ∃ gn, gs.length = gn := ⟨_, rfl⟩
    obtain ⟨rn, hrn⟩ : ∃ rn, rs.length = rn := ⟨_, rfl⟩
    have Hgn := Lib.hid hgn
    have Hrn := Lib.hid hrn
    rw [hgn] at gl1 hgl
    rw [hrn] at rl1 hrl hr0
    obtain ⟨S2, hS2⟩ : ∃ S2, W2.heap.size = S2 := ⟨_, rfl⟩
    have HS2 := Lib.hid hS2
    have HIb : Hid (B < S2 ∧ B + 1 < S2) := Lib.hid (by rw [← hS2]; exact ⟨HI2.out.lt, HX2.out.lt⟩)
    rw [hgn, hrn]
    clear hok gl3 rl3 hgn hrn y0 y1 hfz hfz1 hS2
    go_upto_region 6 with fail
    clear x0 x1
    have hgw : B ≤ S2 := by have := HIb.out.1; omega
    go_loopg [5, 6] gn (fun gk ov iv wx => ∃ (k : Nat) (Wx : World), Wx = wx ∧ ov = .string (mkS (globsTo gs k)) ∧ iv = .int .i64 (k : Int) ∧ k + gk = gn ∧ Hid (Below S2 W2 wx))
    case atStart => exact ⟨0, _, rfl, by rw [globsTo_zero]; rfl, rfl, by omega, Lib.hid (Below.refl _ _)⟩
    case round =>
      obtain ⟨k, Wx, rfl, rfl, rfl, hk, HBx⟩ := hrel
      have HBw : Hid (Below B w Wx) := Lib.hid (HB2.out.trans (HBx.out.mono hgw))
      have hsx : S2 ≤ Wx.heap.size := by have := HBx.out.size; have := HS2.out; omega
      have i0 : Wx.cell? ⟨B, 0, none⟩ = some (.slice gA gn gc) := by
        have h := (HI2.out.below HBx.out HIb.out.1).cell 0
        rwa [Hgn.out] at h
      rcases gk with _ | nk
      · obtain rfl : k = gn := by omega
        have hkn : ¬ (k : Int) < (k : Int) := by omega
        obtain ⟨T0, hT0⟩ : ∃ T0, globsTo gs k = T0 := ⟨_, rfl⟩
        have HT0 := Lib.hid hT0
        have hT0l : T0.length ≤ 50000 := by
          have := globsTo_len Hok.out k (by rw [Hgn.out]; exact Nat.le_refl _)
          rw [← hT0]
          omega
        rw [hT0]
        clear hT0
        go_upto_region 16 with fail
        clear i0 hkn
        have Hnl : Hid ((namesL rs).length = rn) := Lib.hid (by unfold namesL; rw [List.length_map]; exact Hrn.out)
        go_loopg [8, 9] rn (fun gk nv iv wx => ∃ (t : Nat) (pv : Value) (Wz : World), Wz = wx ∧ pv = nv ∧ iv = .int .i64 (t : Int) ∧ t + gk = rn ∧ Hid (OwnS wx S2 nv ((namesL rs).take t)) ∧ Hid (Below S2 W2 wx))
        case atStart => exact ⟨0, _, _, rfl, rfl, rfl, by omega, Lib.hid (OwnS.nil _ _), HBx⟩
        case round =>
          clear HBx HBw hsx
          obtain ⟨t, pv, Wz, rfl, rfl, rfl, ht, HO, HBx⟩ := hrel
          have HBw : Hid (Below B w Wz) := Lib.hid (HB2.out.trans (HBx.out.mono hgw))
          have hsx : S2 ≤ Wz.heap.size := by have := HBx.out.size; have := HS2.out; omega
          have i1 : Wz.cell? ⟨B, 1, none⟩ = some (.slice rA rn rc) := by
            have h := (HI2.out.below HBx.out HIb.out.1).cell 1
            rwa [Hrn.out] at h
          rcases gk with _ | nt
          · obtain rfl : t = rn := by omega
            have htn : ¬ (t : Int) < (t : Int) := by omega
            have HO' : Hid (OwnS Wz S2 pv (namesL rs)) := Lib.hid (by
              have h := HO.out
              rwa [show (namesL rs).take t = namesL rs by rw [← Hnl.out, List.take_length]] at h)
            clear HO
            go_upto_region 20 with fail
            clear i1 htn
            obtain ⟨nb, nc, rfl, hnbS, hnbl0, hnc, hncell⟩ := own_strs HO'.out (by rw [Hnl.out]; omega)
            have HNc := Lib.hid hncell
            have HNo := HO'
            rw [Hnl.out] at HNo hnc ⊢
            obtain ⟨rn, rfl⟩ : ∃ rn, rn = t := ⟨_, rfl⟩
            have HN0 : Hid (StrsAt Wz Wz.heap.size (.slice (some ⟨nb, 0, none⟩) rn nc) (namesL rs)) := Lib.hid (by have h := HNo.out.strs; exact h)
            clear hncell HO'
            go_loopg [5, 10] rn (fun gk ov iv wx => ∃ (t : Nat) (Wy : World), Wy = wx ∧ ov = .string (mkS (T0 ++ routsTo rs t)) ∧ iv = .int .i64 (t : Int) ∧ t + gk = rn ∧ Hid (Below Wz.heap.size Wz wx))
            case atStart => exact ⟨0, _, rfl, by rw [routsTo_zero, List.append_nil], rfl, by omega, Lib.hid (Below.refl _ _)⟩
            case round =>
              obtain ⟨t, Wy, rfl, rfl, rfl, ht, HBz⟩ := hrel
              have HBx2 : Hid (Below S2 W2 Wy) := Lib.hid (HBx.out.trans (HBz.out.mono hsx))
              have HBw2 : Hid (Below B w Wy) := Lib.hid (HB2.out.trans (HBx2.out.mono hgw))
              have i1 : Wy.cell? ⟨B, 1, none⟩ = some (.slice rA rn rc) := by
                have h := (HI2.out.below HBx2.out HIb.out.1).cell 1
                rwa [Hrn.out] at h
              rcases gk with _ | nt
              · obtain rfl : t = rn := by omega
                have htn : ¬ (t : Int) < (t : Int) := by omega
                have HX9 := Lib.hid (HX2.out.below HBx2.out HIb.out.2)
                have y0 := HX9.out.cell 0
                have y1 := HX9.out.cell 1
                have hfz := HX9.out.frozen 0
                have hfz1 := HX9.out.frozen 1
                go_wp2_with fail
                refine end_tmp_cell rfl rfl (HX9.out.set2 (.int .i64 0) (.int .i64 0)) Tryd.underlying24 rfl (by kernel_rfl) rfl ⟨by rw [HE.out, Hgn.out, Hrn.out, HT0.out]; rfl, ?_⟩
                rw [Hw.out]
                exact (HBw2.out.setCell (Nat.le_succ _) _).setCell (Nat.le_succ _) _
              · have htn : (t : Int) < (rn : Int) := by omega
                have ht0 : (0 : Int) ≤ (t : Int) := Int.natCast_nonneg t
                obtain ⟨r, hr⟩ : ∃ r, rs[t]? = some r := ⟨rs[t]'(by rw [Hrn.out]; omega), List.getElem?_eq_getElem _⟩
                have hrm := List.mem_of_getElem? hr
                have hrn12 := Hok.out.rname r hrm
                have Hcok := Lib.hid (Hok.out.code r hrm)
                have Hcf := Lib.hid (code_facts (Hok.out.code r hrm).2.1)
                have hrl' := routL_len Hok.out hrm
                have htl := routText_len Hok.out hrm
                have hrb := (Hro.out r hrm).2
                have Hrs := Lib.hid (routsTo_succ hr)
                have Hnt : Hid ((namesL rs)[t]? = some r.name.data.toList) := Lib.hid (by unfold namesL; rw [List.getElem?_map, hr]; rfl)
                obtain ⟨rb, roff, rfl, hrbw, hrc⟩ := HRc.out (by rw [Hrn.out]; omega)
                obtain ⟨cv, a0, a1, hcv⟩ := hrc t r hr
                rw [Hw.out] at hrbw
                have a1 := (bcell HBw2.out hrbw).trans a1
                have hcv2 : BAt Wy B cv r.code := hcv.below HBw2.out (by rw [Hw.out]; exact Nat.le_refl _) |>.more (by rw [Hw.out]; exact Nat.le_refl _)
                have HRd := Lib.hid (BytesRead_any cv r.code Wy (hcv2.more (Nat.le_trans hgw (Nat.le_trans hsx HBz.out.size))) hrb)
                clear hr hrm a0 hcv hcv2 hrc
                go_wp2_with fail
                refine HRd.out.mono ?_
                rintro e Y2 ⟨av, rfl, hav, hb2⟩
                rw [Hcok.out.1]
                have hzy : Wz.heap.size ≤ Wy.heap.size := HBz.out.size
                have hb2' : Below Wy.heap.size Wy (Y2.alloc (.cells #[.int .i64 0, .int .i64 0] 24)) := hb2.alloc hb2.size _
                have HBy3 := Lib.hid (HBz.out.trans (hb2'.mono hzy))
                have HO3 : Hid (OwnMacs (Y2.alloc (.cells #[.int .i64 0, .int .i64 0] 24)) Wy.heap.size av (readL r.code).2) := Lib.hid (hav.below ((Below.refl _ _).alloc (Nat.le_refl _) _) rfl)
                have HN3 : Hid (StrsAt (Y2.alloc (.cells #[.int .i64 0, .int .i64 0] 24)) (Y2.alloc (.cells #[.int .i64 0, .int .i64 0] 24)).heap.size (.slice (some ⟨nb, 0, none⟩) rn nc) (namesL rs)) := Lib.hid ((HN0.out.below HBy3.out (Nat.le_refl _)).more HBy3.out.size)
                have kx := (bcell HBy3.out hnbl0).trans (HNc.out t _ Hnt.out)
                have hnbl : nb < (Y2.alloc (.cells #[.int .i64 0, .int .i64 0] 24)).heap.size := Nat.lt_of_lt_of_le hnbl0 HBy3.out.size
                have hS3 : Wz.heap.size ≤ (Y2.alloc (.cells #[.int .i64 0, .int .i64 0] 24)).heap.size := HBy3.out.size
                clear hav hb2 hb2' HRd a1 i1 HBx2 HBw2 HBz hzy
                go_upto_region 23 with fail
                generalize Y2.alloc (.cells #[.int .i64 0, .int .i64 0] 24) = Y3 at *
                generalize Y2.heap.size = g12 at *
                obtain ⟨nmL, hnm⟩ : ∃ nmL, r.name.data.toList = nmL := ⟨_, rfl⟩
                rw [hnm] at kx
                have hnml : nmL.length ≤ 12 := by rw [← hnm, bytes_len]; exact hrn12
                obtain ⟨P1, hP1⟩ : ∃ P1, [114, 111, 117, 116, 105, 110, 101, 32] ++ nmL = P1 := ⟨_, rfl⟩
                obtain ⟨TX, hTX⟩ : ∃ TX, textL (rtN (namesL rs)) (readL r.code).2 = TX := ⟨_, rfl⟩
                have HTX := Lib.hid hTX
                obtain ⟨O0, hO0⟩ : ∃ O0, T0 ++ routsTo rs t = O0 := ⟨_, rfl⟩
                obtain ⟨O2, hO2⟩ : ∃ O2, O0 ++ routL rs r = O2 := ⟨_, rfl⟩
                have HO2 : Hid (T0 ++ routsTo rs (t + 1) = O2) := Lib.hid (by rw [Hrs.out, ← hO2, ← hO0, List.append_assoc])
                have hO0l : O0.length ≤ 90000000 := by
                  have h2 := routsTo_len Hok.out t (by rw [Hrn.out]; omega)
                  rw [← hO0, List.length_append]
                  omega
                have hP1l : P1.length ≤ 20 := by rw [← hP1, List.length_append]; simp; omega
                have hP2l : (routHead r).length ≤ 21 := by
                  unfold routHead
                  simp only [List.length_append, List.length_cons, List.length_nil]
                  rw [bytes_len]
                  omega
                have z0 : (mkS nmL).size ≤ 12 := by rw [mkS_size]; exact hnml
                have z1 : (mkS P1).size ≤ 20 := by rw [mkS_size]; exact hP1l
                have z2 : (mkS (routHead r)).size ≤ 21 := by rw [mkS_size]; exact hP2l
                have z3 : (mkS TX).size ≤ 2150000 := by rw [mkS_size, ← hTX]; exact htl
                have z4 : (mkS O0).size ≤ 90000000 := by rw [mkS_size]; exact hO0l
                have z5 : (mkS (routL rs r)).size ≤ 2150030 := by rw [mkS_size]; exact hrl'
                have q1 : ¬ 8 + (mkS nmL).size > 9223372036854775807 := by omega
                have q2 : ¬ (mkS P1).size + 1 > 9223372036854775807 := by omega
                have q3 : ¬ (mkS (routHead r)).size + (mkS TX).size > 9223372036854775807 := by omega
                have q4 : ¬ (mkS O0).size + (mkS (routL rs r)).size > 9223372036854775807 := by omega
                have f1 : ({ data := #[114, 111, 117, 116, 105, 110, 101, 32] } : ByteArray) ++ mkS nmL = mkS P1 := by rw [← hP1]; exact mkS_append [114, 111, 117, 116, 105, 110, 101, 32] _
                have f2 : mkS P1 ++ ({ data := #[10] } : ByteArray) = mkS (routHead r) := by
                  unfold routHead
                  rw [hnm, hP1]
                  exact mkS_append _ [10]
                have f3 : mkS (routHead r) ++ mkS TX = mkS (routL rs r) := by rw [← hTX]; exact mkS_append _ _
                have f4 : mkS O0 ++ mkS (routL rs r) = mkS O2 := by rw [← hO2]; exact mkS_append _ _
                rw [hO0]
                clear hP1 hTX hO0 hO2 hO0l hP1l hP2l z0 z1 z2 z3 z4 z5 htl hrl' hnm hnml
                obtain ⟨pw, hp0, hp1, hp2, hp3, hp4, hp5, hp6, hp7, hp8, hp9, hp10, hp11, hp12⟩ : ∃ pw : Nat → Option Value, pw 0 = some (.string (mkS O0)) ∧ pw 1 = some (.slice (some ⟨nb, 0, none⟩) rn nc) ∧ pw 2 = some (.int .i64 (t : Int)) ∧ pw 3 = some (.pointer (some ⟨nb, t, none⟩)) ∧ pw 4 = some (.string (mkS nmL)) ∧ pw 5 = some (.string (mkS P1)) ∧ pw 6 = some (.string (mkS (routHead r))) ∧ pw 7 = some (av) ∧ pw 8 = some (.slice (some ⟨nb, 0, none⟩) rn nc) ∧ pw 9 = some (.string (mkS TX)) ∧ pw 10 = some (.string (mkS (routL rs r))) ∧ pw 11 = some (.string (mkS O2)) ∧ pw 12 = some (.string (mkS O2)) :=
                  ⟨fun k => ([some (.string (mkS O0)), some (.slice (some ⟨nb, 0, none⟩) rn nc), some (.int .i64 (t : Int)), some (.pointer (some ⟨nb, t, none⟩)), some (.string (mkS nmL)), some (.string (mkS P1)), some (.string (mkS (routHead r))), some (av), some (.slice (some ⟨nb, 0, none⟩) rn nc), some (.string (mkS TX)), some (.string (mkS (routL rs r))), some (.string (mkS O2)), some (.string (mkS O2))] : List (Option Value)).getD k none, rfl, rfl, rfl, rfl, rfl, rfl, rfl, rfl, rfl, rfl, rfl, rfl, rfl⟩
                have P0 := Lib.hid hp0
                have P1 := Lib.hid hp1
                have P2 := Lib.hid hp2
                have P3 := Lib.hid hp3
                have P4 := Lib.hid hp4
                have P5 := Lib.hid hp5
                have P6 := Lib.hid hp6
                have P7 := Lib.hid hp7
                have P8 := Lib.hid hp8
                have P9 := Lib.hid hp9
                have P10 := Lib.hid hp10
                have P11 := Lib.hid hp11
                have P12 := Lib.hid hp12
                clear hp0 hp1 hp2 hp3 hp4 hp5 hp6 hp7 hp8 hp9 hp10 hp11 hp12
                have HS0 : Hid (KnownRun pw Y3 (fun _ => none) { Y3 with drawn := Y3.drawn + 1 }) := Lib.hid (KnownRun.start (below_drew0 (Below.refl _ _)))
                refine wp_region_keepsL (KnownRun pw Y3) (by kernel_rfl) (by kernel_rfl) HS0.out ?_ ?_
                · refine ⟨⟨rfl, ?_⟩, ⟨rfl, ?_⟩, ⟨rfl, ?_⟩, ⟨rfl, ?_⟩, ⟨rfl, ?_⟩, ⟨rfl, ?_⟩, ⟨rfl, ?_⟩, ⟨rfl, ?_⟩, ⟨rfl, ?_⟩, ⟨rfl, ?_⟩, ⟨rfl, ?_⟩, ⟨rfl, ?_⟩, ⟨rfl, ?_⟩, trivial⟩
                  · refine KeepsL.mk (fun j => j == 11 || j == 12) ?_ ?_
                    · kernel_rfl
                    intro σ vs w' hvs hcl' hC hk hdep
                    simp only [putO, Nat.reduceAdd, Nat.reduceBEq, Bool.or_self, Bool.or_true, Bool.or_false, Bool.false_eq_true, if_true, if_false, Act.put, List.setIfInBounds_toArray, List.set_cons_succ, List.set_cons_zero]
                    have HC := Lib.hid hC
                    have HD := Lib.hid hdep
                    clear hC hdep hcl' hk hvs
                    go_simp
                    refine ⟨?_⟩
                    exact HC.out.say P0.out (Below.refl _ _)
                  · refine KeepsL.mk (fun j => j == 3 || j == 12) ?_ ?_
                    · kernel_rfl
                    intro σ vs w' hvs hcl' hC hk hdep
                    simp only [putO, Nat.reduceAdd, Nat.reduceBEq, Bool.or_self, Bool.or_true, Bool.or_false, Bool.false_eq_true, if_true, if_false, Act.put, List.setIfInBounds_toArray, List.set_cons_succ, List.set_cons_zero]
                    have HC := Lib.hid hC
                    have HD := Lib.hid hdep
                    clear hC hdep hcl' hk hvs
                    go_simp
                    refine ⟨?_⟩
                    exact HC.out.say P1.out (Below.refl _ _)
                  · refine KeepsL.mk (fun j => j == 3 || j == 12) ?_ ?_
                    · kernel_rfl
                    intro σ vs w' hvs hcl' hC hk hdep
                    simp only [putO, Nat.reduceAdd, Nat.reduceBEq, Bool.or_self, Bool.or_true, Bool.or_false, Bool.false_eq_true, if_true, if_false, Act.put, List.setIfInBounds_toArray, List.set_cons_succ, List.set_cons_zero]
                    have HC := Lib.hid hC
                    have HD := Lib.hid hdep
                    clear hC hdep hcl' hk hvs
                    go_simp
                    refine ⟨?_⟩
                    exact HC.out.say P2.out (Below.refl _ _)
                  · refine KeepsL.mk (fun j => j == 4 || j == 12) ?_ ?_
                    · kernel_rfl
                    intro σ vs w' hvs hcl' hC hk hdep
                    simp only [putO, Nat.reduceAdd, Nat.reduceBEq, Bool.or_self, Bool.or_true, Bool.or_false, Bool.false_eq_true, if_true, if_false, Act.put, List.setIfInBounds_toArray, List.set_cons_succ, List.set_cons_zero]
                    have HC := Lib.hid hC
                    have HD := Lib.hid hdep
                    clear hC hdep hcl' hk hvs
                    have e1 := HC.out.val (HD.out ⟨1, .data⟩ (by simp) rfl) P1.out
                    have e2 := HC.out.val (HD.out ⟨2, .data⟩ (by simp) rfl) P2.out
                    rw [e1, e2]
                    go_simp
                    refine ⟨?_⟩
                    exact HC.out.say P3.out (Below.refl _ _)
                  · refine KeepsL.mk (fun j => j == 5 || j == 12) ?_ ?_
                    · kernel_rfl
                    intro σ vs w' hvs hcl' hC hk hdep
                    simp only [putO, Nat.reduceAdd, Nat.reduceBEq, Bool.or_self, Bool.or_true, Bool.or_false, Bool.false_eq_true, if_true, if_false, Act.put, List.setIfInBounds_toArray, List.set_cons_succ, List.set_cons_zero]
                    have HC := Lib.hid hC
                    have HD := Lib.hid hdep
                    clear hC hdep hcl' hk hvs
                    have e3 := HC.out.val (HD.out ⟨3, .data⟩ (by simp) rfl) P3.out
                    rw [e3]
                    have kx := (bcell HC.out.low hnbl).trans kx
                    go_simp
                    refine ⟨?_⟩
                    exact HC.out.say P4.out (Below.refl _ _)
                  · refine KeepsL.mk (fun j => j == 6 || j == 12) ?_ ?_
                    · kernel_rfl
                    intro σ vs w' hvs hcl' hC hk hdep
                    simp only [putO, Nat.reduceAdd, Nat.reduceBEq, Bool.or_self, Bool.or_true, Bool.or_false, Bool.false_eq_true, if_true, if_false, Act.put, List.setIfInBounds_toArray, List.set_cons_succ, List.set_cons_zero]
                    have HC := Lib.hid hC
                    have HD := Lib.hid hdep
                    clear hC hdep hcl' hk hvs
                    have e4 := HC.out.val (HD.out ⟨4, .data⟩ (by simp) rfl) P4.out
                    rw [e4]
                    go_simp
                    refine ⟨?_⟩
                    exact HC.out.say P5.out (Below.refl _ _)
                  · refine KeepsL.mk (fun j => j == 10 || j == 12) ?_ ?_
                    · kernel_rfl
                    intro σ vs w' hvs hcl' hC hk hdep
                    simp only [putO, Nat.reduceAdd, Nat.reduceBEq, Bool.or_self, Bool.or_true, Bool.or_false, Bool.false_eq_true, if_true, if_false, Act.put, List.setIfInBounds_toArray, List.set_cons_succ, List.set_cons_zero]
                    have HC := Lib.hid hC
                    have HD := Lib.hid hdep
                    clear hC hdep hcl' hk hvs
                    have e5 := HC.out.val (HD.out ⟨5, .data⟩ (by simp) rfl) P5.out
                    rw [e5]
                    go_simp
                    refine ⟨?_⟩
                    exact HC.out.say P6.out (Below.refl _ _)
                  · refine KeepsL.mk (fun j => j == 9 || j == 12) ?_ ?_
                    · kernel_rfl
                    intro σ vs w' hvs hcl' hC hk hdep
                    simp only [putO, Nat.reduceAdd, Nat.reduceBEq, Bool.or_self, Bool.or_true, Bool.or_false, Bool.false_eq_true, if_true, if_false, Act.put, List.setIfInBounds_toArray, List.set_cons_succ, List.set_cons_zero]
                    have HC := Lib.hid hC
                    have HD := Lib.hid hdep
                    clear hC hdep hcl' hk hvs
                    go_simp
                    refine ⟨?_⟩
                    exact HC.out.say P7.out (Below.refl _ _)
                  · refine KeepsL.mk (fun j => j == 9 || j == 12) ?_ ?_
                    · kernel_rfl
                    intro σ vs w' hvs hcl' hC hk hdep
                    simp only [putO, Nat.reduceAdd, Nat.reduceBEq, Bool.or_self, Bool.or_true, Bool.or_false, Bool.false_eq_true, if_true, if_false, Act.put, List.setIfInBounds_toArray, List.set_cons_succ, List.set_cons_zero]
                    have HC := Lib.hid hC
                    have HD := Lib.hid hdep
                    clear hC hdep hcl' hk hvs
                    go_simp
                    refine ⟨?_⟩
                    exact HC.out.say P8.out (Below.refl _ _)
                  · refine KeepsL.mk (fun j => j == 10 || j == 12) ?_ ?_
                    · kernel_rfl
                    intro σ vs w' hvs hcl' hC hk hdep
                    simp only [putO, Nat.reduceAdd, Nat.reduceBEq, Bool.or_self, Bool.or_true, Bool.or_false, Bool.false_eq_true, if_true, if_false, Act.put, List.setIfInBounds_toArray, List.set_cons_succ, List.set_cons_zero]
                    have HC := Lib.hid hC
                    have HD := Lib.hid hdep
                    clear hC hdep hcl' hk hvs
                    have e7 := HC.out.val (HD.out ⟨7, .data⟩ (by simp) rfl) P7.out
                    have e8 := HC.out.val (HD.out ⟨8, .data⟩ (by simp) rfl) P8.out
                    rw [e7, e8]
                    have HTq := Lib.hid (asmText_any av (.slice (some ⟨nb, 0, none⟩) rn nc) (namesL rs) (readL r.code).2 w' (HO3.out.below HC.out.low rfl).macs Hcok.out.2.2.1 Hcf.out.2.2.1 ((HN3.out.below HC.out.low (Nat.le_refl _)).more HC.out.low.size) (fun _ m hm h4 => ⟨Hcf.out.2.2.2.2 m hm h4, by rw [Hnl.out, ← Hrn.out]; exact Hcok.out.2.2.2 m hm (call_op (Hcf.out.2.2.1 m hm) h4)⟩) (fun m _ => rt_len Hok.out m.n) Hcf.out.1 (by have := Hcf.out.2.1; omega))
                    rw [HTX.out] at HTq
                    go_simp
                    refine ⟨?_⟩
                    refine HTq.out.mono ?_
                    rintro e w2 ⟨rfl, hb⟩
                    exact ⟨_, rfl, HC.out.say P9.out hb⟩
                  · refine KeepsL.mk (fun j => j == 11 || j == 12) ?_ ?_
                    · kernel_rfl
                    intro σ vs w' hvs hcl' hC hk hdep
                    simp only [putO, Nat.reduceAdd, Nat.reduceBEq, Bool.or_self, Bool.or_true, Bool.or_false, Bool.false_eq_true, if_true, if_false, Act.put, List.setIfInBounds_toArray, List.set_cons_succ, List.set_cons_zero]
                    have HC := Lib.hid hC
                    have HD := Lib.hid hdep
                    clear hC hdep hcl' hk hvs
                    have e6 := HC.out.val (HD.out ⟨6, .data⟩ (by simp) rfl) P6.out
                    have e9 := HC.out.val (HD.out ⟨9, .data⟩ (by simp) rfl) P9.out
                    rw [e6, e9]
                    go_simp
                    refine ⟨?_⟩
                    exact HC.out.say P10.out (Below.refl _ _)
                  · refine KeepsL.mk (fun j => j == 12) ?_ ?_
                    · kernel_rfl
                    intro σ vs w' hvs hcl' hC hk hdep
                    simp only [putO, Nat.reduceAdd, Nat.reduceBEq, Bool.false_eq_true, if_true, if_false, Act.put, List.setIfInBounds_toArray, List.set_cons_succ, List.set_cons_zero]
                    have HC := Lib.hid hC
                    have HD := Lib.hid hdep
                    clear hC hdep hcl' hk hvs
                    have e0 := HC.out.val (HD.out ⟨0, .data⟩ (by simp) rfl) P0.out
                    have e10 := HC.out.val (HD.out ⟨10, .data⟩ (by simp) rfl) P10.out
                    rw [e0, e10]
                    go_simp
                    refine ⟨?_⟩
                    exact HC.out.say P11.out (Below.refl _ _)
                  · refine KeepsL.mk (fun _ => false) ?_ ?_
                    · kernel_rfl
                    intro σ vs w' hvs hcl' hC hk hdep
                    simp only [putO, Nat.reduceAdd, Bool.false_eq_true, if_false, Act.put, List.setIfInBounds_toArray, List.set_cons_succ, List.set_cons_zero]
                    have HC := Lib.hid hC
                    have HD := Lib.hid hdep
                    clear hC hdep hcl' hk hvs
                    have e11 := HC.out.val (HD.out ⟨11, .data⟩ (by simp) rfl) P11.out
                    rw [e11]
                    go_simp
                    refine ⟨?_⟩
                    exact HC.out.say P12.out (Below.refl _ _)
                intro σ vs w9 hC hall
                have e12 := hC.val (hall 12 (by decide)) P12.out
                have HB9 := Lib.hid (HBy3.out.trans (hC.low.mono hS3))
                simp only [putO, Act.put, List.setIfInBounds_toArray, List.set_cons_succ, List.set_cons_zero, Nat.reduceAdd]
                rw [e12]
                generalize vs 0 = s'0 at *
                generalize vs 1 = s'1 at *
                generalize vs 2 = s'2 at *
                generalize vs 3 = s'3 at *
                generalize vs 4 = s'4 at *
                generalize vs 5 = s'5 at *
                generalize vs 6 = s'6 at *
                generalize vs 7 = s'7 at *
                generalize vs 8 = s'8 at *
                generalize vs 9 = s'9 at *
                generalize vs 10 = s'10 at *
                generalize vs 11 = s'11 at *
                clear hC hall e12 HS0 P0 P1 P2 P3 P4 P5 P6 P7 P8 P9 P10 P11 P12
                clear q1 q2 q3 q4 f1 f2 f3 f4
                go_wp2_with fail
                go_roundg nt
                case measure => omega
                case rel => exact ⟨t + 1, _, rfl, by rw [HO2.out], by go_num, by omega, HB9⟩
          · have htn : (t : Int) < (rn : Int) := by omega
            have ht0 : (0 : Int) ≤ (t : Int) := Int.natCast_nonneg t
            obtain ⟨r, hr⟩ : ∃ r, rs[t]? = some r := ⟨rs[t]'(by rw [Hrn.out]; omega), List.getElem?_eq_getElem _⟩
            obtain ⟨rb, roff, rfl, hrbw, hrc⟩ := HRc.out (by rw [Hrn.out]; omega)
            obtain ⟨cv, a0, a1, hcv⟩ := hrc t r hr
            rw [Hw.out] at hrbw
            have a0 := (bcell HBw.out hrbw).trans a0
            obtain ⟨nmL, hnm⟩ : ∃ nmL, r.name.data.toList = nmL := ⟨_, rfl⟩
            rw [← mkS_of r.name, hnm] at a0
            have Hnt : Hid ((namesL rs).take (t + 1) = (namesL rs).take t ++ [nmL]) := Lib.hid (by
              rw [List.take_add_one]
              unfold namesL
              rw [List.getElem?_map, hr, ← hnm]
              rfl)
            have htl : ((namesL rs).take t).length ≤ 3000000000 := by
              have := Hnl.out
              rw [List.length_take]
              omega
            clear a1 hcv hrc hr hnm
            go_wp2_with (at_builtin; refine app_one rfl _ _ 55 9 rfl (.string ⟨#[]⟩) 1 16 Tryd.underlying55 infoStr rfl (by decide) (by decide) S2 _ _ _ (by rfl) HO.out _ [.string (mkS nmL)] (by rfl) rfl (fun x hx => by simp at hx; subst hx; rfl) rfl htl hsx ?_; intro v4 w4 HA4)
            have HO4 : Hid (OwnS w4 S2 v4 ((namesL rs).take (t + 1))) := Lib.hid (by rw [Hnt.out]; exact OwnS.snoc HA4.out.own)
            have HB4 := Lib.hid (HBx.out.trans HA4.out.below)
            clear HA4 HO HBx HBw a0 i1
            go_roundg nt
            case measure => omega
            case rel => exact ⟨t + 1, _, _, rfl, rfl, by go_num, by omega, HO4, HB4⟩
      · have hkn : (k : Int) < (gn : Int) := by omega
        have hk0 : (0 : Int) ≤ (k : Int) := Int.natCast_nonneg k
        obtain ⟨g, hg⟩ : ∃ g, gs[k]? = some g := ⟨gs[k]'(by rw [Hgn.out]; omega), List.getElem?_eq_getElem _⟩
        have hgm := List.mem_of_getElem? hg
        obtain ⟨hn12, hsz, hil, hix⟩ := Hok.out.gname g hgm
        have Hix := Lib.hid hix
        have hhl := head_len Hok.out hgm
        obtain ⟨T0, hT0⟩ : ∃ T0, globsTo gs k = T0 := ⟨_, rfl⟩
        have hT0l : T0.length ≤ 50000 := by
          have := globsTo_len Hok.out k (by rw [Hgn.out]; omega)
          rw [← hT0]
          omega
        obtain ⟨T1, hT1⟩ : ∃ T1, T0 ++ globHead g = T1 := ⟨_, rfl⟩
        have HT1 := Lib.hid hT1
        have hT1l : T1.length ≤ 50050 := by rw [← hT1, List.length_append]; omega
        have Hgs : Hid (globsTo gs (k + 1) = T1 ++ initTo g g.init.length ++ [10]) := Lib.hid (by
          rw [globsTo_succ hg, hT0, ← hT1]
          unfold globL
          simp [List.append_assoc])
        rw [hT0]
        obtain ⟨ab, aoff, rfl, hab, hac⟩ := HGc.out (by rw [Hgn.out]; omega)
        obtain ⟨iv, a0, a1, a2, hiv⟩ := hac k g hg
        rw [Hw.out] at hab
        have a0 := (bcell HBw.out hab).trans a0
        have a1 := (bcell HBw.out hab).trans a1
        have a2 := (bcell HBw.out hab).trans a2
        obtain ⟨iA, ic, rfl, il1, il2, il3⟩ := hiv
        have Hil := Lib.hid il3
        obtain ⟨il, hIL⟩ : ∃ il, g.init.length = il := ⟨_, rfl⟩
        have HIL := Lib.hid hIL
        rw [hIL] at a2 il1 hil
        clear hIL hg hgm hix hac il3 hT0 hT1
        have HD := Lib.hid (fun W => (Digits_any g.size hsz W).mono (fun _ _ h => (⟨h.1, h.2.symm⟩ : _ ∧ _)))
        have hitl := itoa_len hsz
        obtain ⟨P1, hP1⟩ : ∃ P1, [103, 108, 111, 98, 97, 108, 32] ++ g.name.data.toList = P1 := ⟨_, rfl⟩
        obtain ⟨P2, hP2⟩ : ∃ P2, P1 ++ [32] = P2 := ⟨_, rfl⟩
        have hP1l : P1.length ≤ 19 := by rw [← hP1, List.length_append, bytes_len]; simp; omega
        have hP2l : P2.length ≤ 20 := by rw [← hP2, List.length_append]; simp; omega
        have z1 : (mkS P1).size ≤ 19 := by rw [mkS_size]; exact hP1l
        have z2 : (mkS P2).size ≤ 20 := by rw [mkS_size]; exact hP2l
        have z3 : (mkS (Lib.itoa g.size)).size ≤ 20 := by rw [mkS_size]; exact hitl
        have z4 : (mkS T0).size ≤ 50000 := by rw [mkS_size]; exact hT0l
        have z5 : (mkS (globHead g)).size ≤ 50 := by rw [mkS_size]; exact hhl
        have q1 : ¬ 7 + g.name.size > 9223372036854775807 := by omega
        have q2 : ¬ (mkS P1).size + 1 > 9223372036854775807 := by omega
        have q3 : ¬ (mkS P2).size + (mkS (Lib.itoa g.size)).size > 9223372036854775807 := by omega
        have q4 : ¬ (mkS T0).size + (mkS (globHead g)).size > 9223372036854775807 := by omega
        have e1 : ({ data := #[103, 108, 111, 98, 97, 108, 32] } : ByteArray) ++ g.name = mkS P1 := by
          rw [← hP1, ← mkS_append, mkS_of]
          rfl
        have e2 : mkS P1 ++ ({ data := #[32] } : ByteArray) = mkS P2 := by rw [← hP2]; exact mkS_append _ [32]
        have e3 : mkS P2 ++ mkS (Lib.itoa g.size) = mkS (globHead g) := by
          rw [mkS_append, ← hP2, ← hP1]
          rfl
        have e4 : mkS T0 ++ mkS (globHead g) = mkS T1 := by rw [← HT1.out]; exact mkS_append _ _
        clear hP1 hP2 z1 z2 z3 z4 z5 hP1l hP2l hitl
        go_upto_region 8 with fail
        go_quiet (first | (go_at_call 20; refine Calls.quiet_of_same (HD.out _)))
        clear q1 q2 q3 q4 e1 e2 e3 e4 HD
        have HBy : Hid (Below S2 W2 (Wx.drewN nq)) := Lib.hid (HBx.out.trans ⟨rfl, rfl, rfl, Nat.le_refl _, fun _ _ => rfl⟩)
        have a2 : (Wx.drewN nq).cell? ⟨ab, aoff + k * 3 + 2, none⟩ = _ := a2
        have i0 : (Wx.drewN nq).cell? ⟨B, 0, none⟩ = _ := i0
        have HBwy : Hid (Below B w (Wx.drewN nq)) := Lib.hid (HB2.out.trans (HBy.out.mono hgw))
        go_upto_region 10 with fail
        generalize Wx.drewN nq = Y1 at *
        clear HBx HBw a0 a1 hsx
        go_loopg [5, 7] il (fun gk ov iv wx => ∃ (t : Nat), ov = .string (mkS (T1 ++ initTo g t)) ∧ iv = .int .i64 (t : Int) ∧ t + gk = il ∧ Y1 = wx)
        case atStart => exact ⟨0, by rw [initTo_zero, List.append_nil], rfl, by omega, rfl⟩
        case round =>
          obtain ⟨t, rfl, rfl, ht, rfl⟩ := hrel
          have hL : (T1 ++ initTo g t).length ≤ 60000 := by
            have h2 := initTo_len Hix.out t
            rw [List.length_append]
            omega
          obtain ⟨O0, hO0⟩ : ∃ O0, T1 ++ initTo g t = O0 := ⟨_, rfl⟩
          rw [hO0] at hL ⊢
          have z0 : (mkS O0).size ≤ 60000 := by rw [mkS_size]; exact hL
          rcases gk with _ | nt
          · obtain rfl : t = il := by omega
            have htn : ¬ (t : Int) < (t : Int) := by omega
            have q1 : ¬ (mkS O0).size + 1 > 9223372036854775807 := by omega
            have f1 : mkS O0 ++ ({ data := #[10] } : ByteArray) = mkS (globsTo gs (k + 1)) := by
              rw [Hgs.out, HIL.out, hO0]
              exact mkS_append _ [10]
            clear hO0 z0 hL
            go_wp2_with fail
            go_roundg nk
            case measure => omega
            case rel => exact ⟨k + 1, _, rfl, rfl, by go_num, by omega, HBy⟩
          · have htn : (t : Int) < (il : Int) := by omega
            have ht0 : (0 : Int) ≤ (t : Int) := Int.natCast_nonneg t
            obtain ⟨x, hx⟩ : ∃ x, g.init[t]? = some x := ⟨g.init[t]'(by rw [HIL.out]; omega), List.getElem?_eq_getElem _⟩
            have hxI := Hix.out x (List.mem_of_getElem? hx)
            have Hxs : Hid (T1 ++ initTo g (t + 1) = O0 ++ (32 :: Lib.itoa x)) := Lib.hid (by rw [initTo_succ hx, ← hO0, List.append_assoc])
            obtain ⟨ib, ioff, rfl, hib, hic⟩ := Hil.out (by rw [HIL.out]; omega)
            rw [Hw.out] at hib
            have kx := (bcell HBwy.out hib).trans (hic t x hx)
            have HDg := Lib.hid (Digits_any x hxI Y1)
            have hil1 := itoa_len hxI
            have z1 : (mkS (Lib.itoa x)).size ≤ 20 := by rw [mkS_size]; exact hil1
            have z2 : (mkS (32 :: Lib.itoa x)).size ≤ 21 := by rw [mkS_size, List.length_cons]; omega
            have q1 : ¬ 1 + (mkS (Lib.itoa x)).size > 9223372036854775807 := by omega
            have q2 : ¬ (mkS O0).size + (mkS (32 :: Lib.itoa x)).size > 9223372036854775807 := by omega
            have f1 : ({ data := #[32] } : ByteArray) ++ mkS (Lib.itoa x) = mkS (32 :: Lib.itoa x) := mkS_append [32] _
            have f2 : mkS O0 ++ mkS (32 :: Lib.itoa x) = mkS (T1 ++ initTo g (t + 1)) := by rw [Hxs.out]; exact mkS_append _ _
            clear hx hic z0 z1 z2 hO0 hL hil1
            go_wp2_with fail
            refine HDg.out.mono ?_
            rintro e w' ⟨rfl, rfl⟩
            go_wp2_with fail
            go_roundg nt
            case measure => omega
            case rel => exact ⟨t + 1, rfl, by go_num, by omega, rfl⟩
  · have hub : (uc == 0) = false := by simpa using h0
    have HE : Hid (apartF gs rs = []) := Lib.hid (by unfold apartF; rw [if_neg (by rw [Hun.out]; exact h0)])
    clear h0
    go_wp2_with fail
    go_region
    all_goals
      go_wp2_with fail
      refine end_tmp_cell rfl rfl (HX2.out.set2 (.int .i64 uc) (.int .i64 ua)) Tryd.underlying24 rfl (by kernel_rfl) rfl ⟨by rw [HE.out]; rfl, ?_⟩
      rw [Hw.out]
      exact below_drew0 ((HB2.out.setCell (Nat.le_succ _) _).setCell (Nat.le_succ _) _)
end Go.Proofs.YtdldochhondifaaDoor
