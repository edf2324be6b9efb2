/-
  Contract of machine.run.
  Conditions: the slices read as globals, routines and numbers; the table shapes lies as its initialiser lays it; what the closure does.
-/
import Derived.Test.YtkiaffaieniebaaDoorRuH
import Derived.Test.YtkiaffaieniebaaDoorLey
namespace Go.Proofs.YtkiaffaieniebaaDoor
open Go.RowKit

/-- What the closure that a run is handed does. -/
def MetDoes (F : FuncId) (cap : Array Value) (w : World) (b0 : Nat) (J : World → List (Nat × Nat) → Prop) : Prop :=
  (∀ (a : Array Value) (W : World), (callFunc F a).run Tryd.prog W = .ok (.enter F a) W) ∧
  (∀ (r pc : Nat) (W : World) (tr : List (Nat × Nat)), w.heap.size ≤ W.heap.size → J W tr → Calls Tryd.prog F (#[.int .i64 (r : Int), .int .i64 (pc : Int)] ++ cap) W fun e W' => e = .returned (.tuple #[]) ∧ KeepC W W' ∧ Below b0 W W' ∧ J W' (tr ++ [(r, pc)]))
set_option maxRecDepth 100000 in
set_option maxHeartbeats 8000000 in
theorem run_any (F : FuncId) (cap : Array Value) (gv rv iv : Value) (gs : List Glob) (rs : List Rout) (inp : List Int) (fuel : Int) (w : World) (b0 : Nat) (J : World → List (Nat × Nat) → Prop) (hg : GlobsAt w b0 gv gs) (hr : RoutsAt w b0 rv rs) (hin : IntsAt w b0 iv inp)
    (hgo : GOk gs) (hro : ROk rs) (ht : Tab w) (hb0 : b0 ≤ w.heap.size) (hJ : ∀ W W' tr, J W tr → Below w.heap.size W W' → J W' tr) (hJ0 : J w []) (hF : MetDoes F cap w b0 J) :
    Calls Tryd.prog 33 #[.agg #[gv, rv], iv, .int .i64 fuel, .func (.func F) #[] cap] w (RunPost w b0 J (runO gs rs inp fuel) (runF gs rs inp fuel) (runL gs rs inp fuel) (runT gs rs inp fuel)) := by
  have HF := Lib.hid hF.2
  have HJ := Lib.hid hJ
  have hc := hF.1
  have hA : Below w.heap.size w (((w.alloc (.cells #[gv, rv] 36)).alloc (.cells #[.int .i64 0, .int .i64 0, .slice none 0 0, .int .i64 0] 28)).alloc (.cells #[.int .i64 0, .int .i64 0] 30)) := (((Below.refl _ _).alloc (Nat.le_refl _) _).alloc (by simp) _).alloc (by simp; omega) _
  have HN : Hid (RunNow w b0 w.heap.size gv rv J [] (((w.alloc (.cells #[gv, rv] 36)).alloc (.cells #[.int .i64 0, .int .i64 0, .slice none 0 0, .int .i64 0] 28)).alloc (.cells #[.int .i64 0, .int .i64 0] 30))) := Lib.hid
    ⟨((Blk.new w _ _).alloc _).alloc _, Blk.alloc (by have := Blk.new (w.alloc (.cells #[gv, rv] 36)) 28 #[.int .i64 0, .int .i64 0, .slice none 0 0, .int .i64 0]; simpa using this) _,
      by have := Blk.new ((w.alloc (.cells #[gv, rv] 36)).alloc (.cells #[.int .i64 0, .int .i64 0, .slice none 0 0, .int .i64 0] 28)) 30 #[.int .i64 0, .int .i64 0]; simpa using this, hA.mono hb0, hJ _ _ _ hJ0 hA, fun g t cs hg hc => hc.below hA hg⟩
  have HZ : Hid (w.heap.size + 3 ≤ (((w.alloc (.cells #[gv, rv] 36)).alloc (.cells #[.int .i64 0, .int .i64 0, .slice none 0 0, .int .i64 0] 28)).alloc (.cells #[.int .i64 0, .int .i64 0] 30)).heap.size) := Lib.hid (by simp)
  have HA := Lib.hid hA
  have HG := Lib.hid hg
  have HR := Lib.hid hr
  have HI := Lib.hid hin
  have HGo := Lib.hid hgo
  have HRo := Lib.hid hro
  have HT := Lib.hid ht
  clear hF hJ hA hg hr hin hgo hro ht hJ0
  obtain ⟨fR, hfR⟩ : ∃ f, runF gs rs inp fuel = f := ⟨_, rfl⟩
  obtain ⟨sR, hsR⟩ : ∃ f, runO gs rs inp fuel = f := ⟨_, rfl⟩
  obtain ⟨lR, hlR⟩ : ∃ f, runL gs rs inp fuel = f := ⟨_, rfl⟩
  obtain ⟨tR, htR⟩ : ∃ f, runT gs rs inp fuel = f := ⟨_, rfl⟩
  rw [hfR, hsR, hlR, htR]
  have HfR := Lib.hid hfR
  have HsR := Lib.hid hsR
  have HlR := Lib.hid hlR
  have HtR := Lib.hid htR
  clear hfR hsR hlR htR
  obtain ⟨PE, hPE⟩ : ∃ PE, RunPost w b0 J sR fR lR tR = PE := ⟨_, rfl⟩
  rw [hPE]
  have HPE := Lib.hid hPE
  clear hPE
  obtain ⟨Ai, ci, hiv, hci, hi63, _⟩ := HI.out
  subst hiv
  go_enter Tryd.func33, Tryd.ntmps33
  go_wp2_with fail
  generalize ((w.alloc (.cells #[gv, rv] 36)).alloc (.cells #[.int .i64 0, .int .i64 0, .slice none 0 0, .int .i64 0] 28)).alloc (.cells #[.int .i64 0, .int .i64 0] 30) = W at *
  have hzW : w.heap.size ≤ W.heap.size := by have := HZ.out; omega
  refine (load_any gv rv gs rs W ((HG.out.below HA.out hb0).more (by omega)) ((HR.out.below HA.out hb0).more (by omega)) HGo.out HRo.out (HT.out.own HA.out)).mono ?_
  rintro e w1 ⟨cv, rfl, hco, hb1⟩
  have hz1 : w.heap.size + 3 ≤ w1.heap.size := by have := hb1.size; have := HZ.out; omega
  have HN1 := Lib.hid ((HN.out.next hb1 HZ.out (by omega) HJ.out).next (wy := w1.alloc (.cells #[.int .i64 (machF gs rs).1, .int .i64 (machF gs rs).2] 30)) ((Below.refl w1.heap.size w1).alloc (Nat.le_refl _) _) hz1 (by omega) HJ.out)
  have HF1 := Lib.hid (Blk.new w1 30 #[.int .i64 (machF gs rs).1, .int .i64 (machF gs rs).2])
  have HCo : Hid (CodesHi (w1.alloc (.cells #[.int .i64 (machF gs rs).1, .int .i64 (machF gs rs).2] 30)) W.heap.size w1.heap.size cv (machL gs rs)) := Lib.hid (hco.hi.below ((Below.refl _ _).alloc (Nat.le_refl _) _))
  have HB1 := Lib.hid (HA.out.trans (hb1.mono hzW))
  have p0 := HF1.out.cell 0
  have p1 := HF1.out.cell 1
  clear hb1 hco HN HA
  have r0 := HN1.out.res.cell 0
  have r1 := HN1.out.res.cell 1
  have r2 := HN1.out.res.cell 2
  have r3 := HN1.out.res.cell 3
  have k0 := HN1.out.flt.cell 0
  have k1 := HN1.out.flt.cell 1
  have rf0 := HN1.out.res.frozen 0
  have rf1 := HN1.out.res.frozen 1
  have rf2 := HN1.out.res.frozen 2
  have rf3 := HN1.out.res.frozen 3
  have kf0 := HN1.out.flt.frozen 0
  have kf1 := HN1.out.flt.frozen 1
  have hz2 : w1.heap.size < (w1.alloc (.cells #[.int .i64 (machF gs rs).1, .int .i64 (machF gs rs).2] 30)).heap.size := by simp
  have Hz2 := Lib.hid hz2
  clear hz2
  obtain ⟨Ac, cc, hcv, _⟩ := HCo.out
  subst hcv
  go_upto_region 2 with fail
  generalize w1.alloc (.cells #[.int .i64 (machF gs rs).1, .int .i64 (machF gs rs).2] 30) = W1 at *
  by_cases hf : (machF gs rs).1 = 0
  · have hfb : ((machF gs rs).1 != 0) = false := by simp [hf]
    have Hf := Lib.hid hf
    clear hf
    by_cases hfu : fuel < 0 ∨ 900000 < fuel
    · have Hfu := Lib.hid hfu
      rcases hfu with hfu | hfu
      all_goals
        go_wp2_with fail
        have hE : fR = (3, -1) := by rw [← HfR.out]; unfold runF; rw [if_neg (by rw [Hf.out]; simp), if_pos Hfu.out]
        obtain ⟨e1, e2, e3⟩ := run_bad (HfR.out.trans hE) (by decide)
        rw [HsR.out] at e1
        rw [HlR.out] at e2
        rw [HtR.out] at e3
        have hend := HN1.out.end_ (.int .i64 0) (.int .i64 0) (.slice none 0 0) (.int .i64 0) (.int .i64 3) (.int .i64 (-1))
        refine end_tmp_cells rfl rfl rfl hend.1 hend.2.1 Tryd.underlying28 rfl Tryd.underlying30 rfl (by kernel_rfl) (by kernel_rfl) rfl ?_
        rw [← HPE.out, e1, e2, e3, hE]
        exact run_fault HN1.out (hend.2.2.mono (by omega)) hb0 HJ.out rfl _
    · have Hfu := Lib.hid hfu
      have hfu0 : 0 ≤ fuel := by omega
      have hfu1 : fuel ≤ 900000 := by omega
      clear hfu
      by_cases h30 : 30 < inp.length
      · have H30 := Lib.hid h30
        go_wp2_with fail
        have hE : fR = (2, -1) := by rw [← HfR.out]; unfold runF; rw [if_neg (by rw [Hf.out]; simp), if_neg Hfu.out, if_pos H30.out]
        obtain ⟨e1, e2, e3⟩ := run_bad (HfR.out.trans hE) (by decide)
        rw [HsR.out] at e1
        rw [HlR.out] at e2
        rw [HtR.out] at e3
        have hend := HN1.out.end_ (.int .i64 0) (.int .i64 0) (.slice none 0 0) (.int .i64 0) (.int .i64 2) (.int .i64 (-1))
        refine end_tmp_cells rfl rfl rfl hend.1 hend.2.1 Tryd.underlying28 rfl Tryd.underlying30 rfl (by kernel_rfl) (by kernel_rfl) rfl ?_
        rw [← HPE.out, e1, e2, e3, hE]
        exact run_fault HN1.out (hend.2.2.mono (by omega)) hb0 HJ.out rfl _
      · have h30' : inp.length ≤ 30 := by omega
        have hE : fR = (0, 0) := by rw [← HfR.out]; unfold runF; rw [if_neg (by rw [Hf.out]; simp), if_neg Hfu.out, if_neg h30]
        have HE := Lib.hid hE
        have hd1 : decide (fuel < 0) = false := by simp; omega
        have hd2 : decide (900000 < fuel) = false := by simp; omega
        have hd3 : decide (30 < (inp.length : Int)) = false := by simp; omega
        clear h30 hE
        go_upto_region 9 with fail
        clear hd1 hd2 hd3
        have HMx : Hid (MachIs (((W1.alloc (.cells Tryd.zeroCells98 98)).alloc (.cells #[.pointer (some ⟨W1.heap.size, 0, none⟩)] 95)).alloc
          (.cells #[.slice Ac (machL gs rs).length cc, .int .i64 0, .int .i64 0, .int .i64 0, .int .i64 0, .int .i64 0, .int .i64 0, .int .i64 0, .int .i64 0, .int .i64 0, .int .i64 0, .int .i64 0, .int .i64 0, .int .i64 0, .int .i64 0, .int .i64 0, .int .i64 0, .slice none 0 0,
            .slice (some ⟨W1.heap.size + 1, 0, none⟩) 1 1, .slice Ai inp.length ci, .int .i64 0, .int .i64 0, .slice none 0 0, .int .i64 0, .bool false] 102)) W1.heap.size (W1.heap.size + 1 + 1) (machL gs rs) (startS [] inp)) :=
          Lib.hid (mach_new (HCo.out.to.more (Nat.le_of_lt Hz2.out)) ((HI.out.below HN1.out.below (Nat.le_refl _)).more (by have := Hz2.out; omega)))
        have hBx : Below W1.heap.size W1 (((W1.alloc (.cells Tryd.zeroCells98 98)).alloc (.cells #[.pointer (some ⟨W1.heap.size, 0, none⟩)] 95)).alloc
          (.cells #[.slice Ac (machL gs rs).length cc, .int .i64 0, .int .i64 0, .int .i64 0, .int .i64 0, .int .i64 0, .int .i64 0, .int .i64 0, .int .i64 0, .int .i64 0, .int .i64 0, .int .i64 0, .int .i64 0, .int .i64 0, .int .i64 0, .int .i64 0, .int .i64 0, .slice none 0 0,
            .slice (some ⟨W1.heap.size + 1, 0, none⟩) 1 1, .slice Ai inp.length ci, .int .i64 0, .int .i64 0, .slice none 0 0, .int .i64 0, .bool false] 102)) := (((Below.refl _ _).alloc (Nat.le_refl _) _).alloc (by simp) _).alloc (by simp; omega) _
        have HN2 := Lib.hid (HN1.out.next hBx (by have := Hz2.out; omega) (by have := Hz2.out; omega) HJ.out)
        have HCo2 := Lib.hid (HCo.out.below (hBx.mono (Nat.le_of_lt Hz2.out)))
        clear p0 p1 r0 r1 r2 r3 k0 k1 rf0 rf1 rf2 rf3 kf0 kf1 hBx HN1 HCo HF1
        have Hbase : Hid (w.heap.size + 3 ≤ W1.heap.size) := Lib.hid (by have := Hz2.out; omega)
        generalize (((W1.alloc (.cells Tryd.zeroCells98 98)).alloc (.cells #[.pointer (some ⟨W1.heap.size, 0, none⟩)] 95)).alloc
          (.cells #[.slice Ac (machL gs rs).length cc, .int .i64 0, .int .i64 0, .int .i64 0, .int .i64 0, .int .i64 0, .int .i64 0, .int .i64 0, .int .i64 0, .int .i64 0, .int .i64 0, .int .i64 0, .int .i64 0, .int .i64 0, .int .i64 0, .int .i64 0, .int .i64 0, .slice none 0 0,
            .slice (some ⟨W1.heap.size + 1, 0, none⟩) 1 1, .slice Ai inp.length ci, .int .i64 0, .int .i64 0, .slice none 0 0, .int .i64 0, .bool false] 102)) = W2 at *
        have Hbw : Hid (w1.heap.size ≤ W1.heap.size) := Lib.hid (Nat.le_of_lt Hz2.out)
        generalize hbs : W1.heap.size = base at *
        clear hbs
        have i0 := HN2.out.img.cell 0
        obtain ⟨Ag, cg, hgv, hgc, hg63, _⟩ := HG.out
        subst hgv
        obtain ⟨gl, hgl⟩ : ∃ gl, gs.length = gl := ⟨_, rfl⟩
        have HLg := Lib.hid hgl
        rw [hgl] at hgc i0 HG HN2
        clear hgl
        have Hgood := Lib.hid (glob_good (machF_zero Hf.out).1)
        go_wp2_with fail
        generalize Value.agg #[.slice Ac (machL gs rs).length cc, .int .i64 0, .int .i64 0, .int .i64 0, .int .i64 0, .int .i64 0, .int .i64 0, .int .i64 0, .int .i64 0, .int .i64 0, .int .i64 0, .int .i64 0, .int .i64 0, .int .i64 0, .int .i64 0, .int .i64 0, .int .i64 0, .slice none 0 0,
            .slice (some ⟨base + 1, 0, none⟩) 1 1, .slice Ai inp.length ci, .int .i64 0, .int .i64 0, .slice none 0 0, .int .i64 0, .bool false] = x47
        generalize Value.agg Tryd.zeroCells98 = x44
        generalize Value.tuple #[.slice Ac (machL gs rs).length cc, .agg #[.int .i64 (machF gs rs).1, .int .i64 (machF gs rs).2]] = x16
        generalize Value.agg #[.int .i64 (machF gs rs).1, .int .i64 (machF gs rs).2] = x20
        generalize Value.agg #[.slice Ag gl cg, rv] = x17
        generalize hag : Value.agg #[.slice Ag gs.length cg, rv] = x0
        clear hag
        generalize Value.slice (some ⟨base + 1, 0, none⟩) 1 1 = x46
        generalize Value.int .i64 (machF gs rs).1 = x23
        go_loopw [52] (fun i wr => ∃ k : Nat, k ≤ gl ∧ i = .int .i64 k ∧ Hid (MachIs wr base (base + 1 + 1) (machL gs rs) (startS (memS (gs.take k)) inp)) ∧ Hid (RunNow w b0 w.heap.size (.slice Ag gl cg) rv J [] wr) ∧ Hid (CodesHi wr W.heap.size w1.heap.size (.slice Ac (machL gs rs).length cc) (machL gs rs))) (fun i _ => gl - (intOf i).toNat)
        case atStart => exact ⟨0, Nat.zero_le _, rfl, HMx, HN2, HCo2⟩
        case round =>
          obtain ⟨k, hk, rfl, HMk, HNk, HCk⟩ := hrel
          clear i0 HMx HN2 HCo2
          by_cases hlt : k < gl
          · obtain ⟨A', c', e, _, _, h3⟩ := HG.out
            obtain ⟨bg, og, hA, hbg, hcell⟩ := h3 (by rw [HLg.out]; omega)
            obtain rfl : A' = Ag := ((Value.slice.inj e).1).symm
            clear e
            subst hA
            obtain ⟨⟨gn, gz, gi⟩, hgk⟩ : ∃ g, gs[k]? = some g := ⟨gs[k]'(by rw [HLg.out]; exact hlt), List.getElem?_eq_getElem _⟩
            obtain ⟨gvi, c0, c1, c2, hii⟩ := hcell k _ hgk
            have c0 := (bcell HNk.out.below hbg).trans c0
            have c1 := (bcell HNk.out.below hbg).trans c1
            have c2 := (bcell HNk.out.below hbg).trans c2
            have hii := (hii.below HNk.out.below (Nat.le_refl _))
            simp only at c0 c1 c2 hii
            have Hii := Lib.hid hii
            obtain ⟨Ax, cx, hx, hx1, hx2, _⟩ := hii
            subst hx
            obtain ⟨q1, q2, q3, q4⟩ := Hgood.out.2 k _ hgk
            simp only at q1 q2 q3 q4
            have Hgk := Lib.hid hgk
            clear hgk hcell h3
            obtain ⟨zn, rfl⟩ := Int.eq_ofNat_of_zero_le (show 0 ≤ gz by omega)
            obtain ⟨il, hil⟩ : ∃ il, gi.length = il := ⟨_, rfl⟩
            obtain ⟨mn, hmn⟩ : ∃ mn, zn - il = mn := ⟨_, rfl⟩
            have Hil := Lib.hid hil
            have Hmn := Lib.hid hmn
            rw [hil] at q3 hx1 c2 Hii
            have hsub : (zn : Int) - (il : Int) = (mn : Int) := by omega
            have Hsum := Lib.hid (memS_len (machF_zero Hf.out).1 k (by rw [HLg.out]; omega))
            clear hil hmn q4
            go_upto_region 12 with fail
            have hA3 : Below wr.heap.size wr (wr.alloc (.cells #[.string gn, .int .i64 (zn : Int), .slice Ax il cx] 82)) := (Below.refl _ _).alloc (Nat.le_refl _) _
            have HK3 := Lib.hid (Blk.new wr 82 #[.string gn, .int .i64 (zn : Int), .slice Ax il cx])
            have HM3 := Lib.hid (HMk.out.below hA3)
            have hzr : base + 1 + 1 < wr.heap.size := by obtain ⟨_, _, _, _, _, _, _, h, _⟩ := HMk.out; exact h.lt
            have HN3 := Lib.hid (HNk.out.next hA3 (by have := Hbase.out; omega) (by have := Hbase.out; omega) HJ.out)
            have HC3 := Lib.hid (HCk.out.below (hA3.mono (by have := Hbw.out; omega)))
            have HI3 := Lib.hid (Hii.out.below (hA3.mono (show b0 ≤ wr.heap.size by have := Hbase.out; omega)) (Nat.le_refl _))
            clear hA3 HMk HNk HCk Hii c0 c1 c2
            generalize wr.alloc (.cells #[.string gn, .int .i64 (zn : Int), .slice Ax il cx] 82) = W3 at *
            generalize wr.heap.size = gh at *
            obtain ⟨hgb, cv3, mv3, lv3, iv3, ov3, ps3, h3⟩ := HM3.out
            obtain ⟨Am, cm, hmv⟩ := row_form h3.2.hmem
            subst hmv
            obtain ⟨n0, hn0⟩ : ∃ n0, (startS (memS (gs.take k)) inp).mem.length = n0 := ⟨_, rfl⟩
            have HO3 : Hid (W3.ownsRow base 3 1 (.slice Am n0 cm) n0 (intV (memS (gs.take k)))) := Lib.hid (by have := h3.2.hmem; rw [← hn0]; exact this)
            rw [hn0] at h3
            have Hn0 : Hid ((memS (gs.take k)).length = n0) := Lib.hid hn0
            have hn200 : n0 ≤ 200 := by have h1 := Hsum.out; have h2 := Hn0.out; omega
            have c17 : W3.cell? ⟨base + 1 + 1, 17, none⟩ = some (.slice Am n0 cm) := (h3.1.cell 17).trans (mach_tail (by simp [startS]) 0)
            have H3 := Lib.hid h3
            have g0 := HK3.out.cell 0
            have g1 := HK3.out.cell 1
            have g2 := HK3.out.cell 2
            clear h3 hn0
            have hwm : IntKind.i64.wrap (mn : Int) = (mn : Int) := by rw [IntKind.wrap_i64]; omega
            have HL6 : Hid (n0 + il + mn = (memS (gs.take k) ++ gi ++ List.replicate mn 0).length) := Lib.hid (by rw [List.length_append, List.length_append, List.length_replicate, Hn0.out, Hil.out])
            have HV6 : Hid (intV (memS (gs.take k)) ++ intV gi ++ List.replicate mn (Value.int .i64 0) = intV (memS (gs.take k) ++ gi ++ List.replicate mn 0)) := Lib.hid (by rw [intV_app, intV_rep, intV_app])
            have HReg : Hid ((startS (memS (gs.take k)) inp).regs.length = 16) := Lib.hid (by simp [startS])
            have HSrc : Hid (0 < il → ∃ ad, Ax = some ad ∧ ∀ j u, (intV gi)[j]? = some u → W3.drew.cell? (ad.add j) = some u) := Lib.hid (ints_src (w := W3) HI3.out)
            have HLen : Hid ((intV gi).length = il * 1) := Lib.hid (by rw [intV_len, Hil.out, Nat.mul_one])
            have HSz : Hid (base ≤ W3.drew.heap.size) := Lib.hid (by have := H3.out.1.lt; show base ≤ W3.heap.size; omega)
            have HSm : Hid (n0 + il ≤ 4000000000) := Lib.hid (by omega)
            have HL5 : Hid (n0 + il = (memS (gs.take k) ++ gi).length) := Lib.hid (by rw [List.length_append, Hn0.out, Hil.out])
            have HP3 := Lib.hid (pair_below hgb H3.out (below_drew1 (Below.refl W3.heap.size W3)))
            obtain ⟨B5, c5, w5, hr5, ap5⟩ := run_app_src (P := Tryd.prog) (w := W3.drew) 26 26 3 (.int .i64 0) 1 8 Tryd.underlying26 infoInt rfl (by decide) (by decide) base (.slice Am n0 cm) n0 (intV (memS (gs.take k))) (World.ownsRow.drew HO3.out) Ax il cx (intV gi) HLen.out HSrc.out (intV_one _) HSm.out HSz.out
            have HK5 := Lib.hid (ap5.blk (World.ownsRow.drew HO3.out) (show Blk (World.drew W3) gh _ _ from HK3.out) (by decide))
            have HP5 := Lib.hid (MRest.grow (mem' := memS (gs.take k) ++ gi) HP3.out rfl HL5.out (intV_app _ _) ap5)
            obtain ⟨B6, c6, w6, hr6, ap6⟩ := run_app_made (P := Tryd.prog) (w := w5) 26 3 26 3 .i64 .i64 (.int .i64 0) 8 Tryd.underlying26 Tryd.underlying3 infoInt rfl rfl (by decide) base (.slice B5 (n0 + il) c5) (n0 + il) (intV (memS (gs.take k)) ++ intV gi) ap5.own mn (by omega) (by have := HP5.out.1.lt; omega)
            have HK6 := Lib.hid (ap6.blk ap5.own HK5.out (by decide))
            have HP6 := Lib.hid (MRest.grow (mem' := memS (gs.take k) ++ gi ++ List.replicate mn 0) HP5.out rfl HL6.out HV6.out ap6)
            have HB6 := Lib.hid (ap5.below.trans ap6.below)
            have Hr5 := Lib.hid hr5
            have Hr6 := Lib.hid hr6
            have HF : Hid (∀ w', w' = W3.drew ∨ w' = w5 ∨ w' = w6 → w'.cell? ⟨gh, 1, none⟩ = some (.int .i64 (zn : Int)) ∧ w'.cell? ⟨gh, 2, none⟩ = some (.slice Ax il cx) ∧ w'.cell? ⟨base + 1 + 1, 17, none⟩ = some (.slice Am n0 cm)) := Lib.hid (by
              rintro w' (rfl | rfl | rfl)
              · exact ⟨HK3.out.cell 1, HK3.out.cell 2, (HP3.out.1.cell 17).trans (mach_tail HReg.out 0)⟩
              · exact ⟨HK5.out.cell 1, HK5.out.cell 2, (HP5.out.1.cell 17).trans (mach_tail HReg.out 0)⟩
              · exact ⟨HK6.out.cell 1, HK6.out.cell 2, (HP6.out.1.cell 17).trans (mach_tail HReg.out 0)⟩)
            have e17 := (HP6.out.1.cell 17).trans (mach_tail HReg.out 0)
            simp only [List.getElem?_cons_zero] at e17
            have ef17 := HP6.out.1.frozen 17
            clear hr5 hr6 ap5 ap6 c17 g0 g1 g2
            refine wp_region_lex (Three W3.drew w5 w6 (w6.setCell ⟨base + 1 + 1, 17, none⟩ (.slice B6 (n0 + il + mn) c6)) 7 14 17 15) (by kernel_rfl) (by kernel_rfl) Three.start ?_
            iterate 7
              apply wpLex_step
              · rfl
              · intro L w' hC hL hd
                clear hd
                have F := HF.out w' (hC.pend hL (by decide))
                have HC := Lib.hid hC
                clear hC
                go_simp
                exact ⟨HC.out.keep _ (by decide) (by decide) (by decide), rfl⟩
              simp only [Act.put, List.setIfInBounds_toArray, List.set_cons_succ, List.set_cons_zero, Nat.reduceAdd]
            apply wpLex_step
            · rfl
            · intro L w' hC hL hd
              obtain ⟨rfl, hC2⟩ := hC.at1 hL (by decide) (by decide) (by decide)
              rw [exec_app (.tmp 60) (.tmp 62) 26 26 rfl _ _ _ _ rfl rfl Hr5.out]
              exact ⟨hC2, rfl⟩
            simp only [Act.put, List.setIfInBounds_toArray, List.set_cons_succ, List.set_cons_zero, Nat.reduceAdd]
            iterate 6
              apply wpLex_step
              · rfl
              · intro L w' hC hL hd
                clear hd
                have F := HF.out w' (hC.pend hL (by decide))
                have HC := Lib.hid hC
                clear hC
                go_simp
                exact ⟨HC.out.keep _ (by decide) (by decide) (by decide), rfl⟩
              simp only [Act.put, List.setIfInBounds_toArray, List.set_cons_succ, List.set_cons_zero, Nat.reduceAdd]
            apply wpLex_step
            · rfl
            · intro L w' hC hL hd
              obtain ⟨rfl, hC2⟩ := hC.at2 hL (hd ⟨7, .data⟩ (by simp) rfl) (by decide) (by decide)
              rw [exec_app (.tmp 63) (.tmp 69) 26 3 rfl _ _ _ _ rfl rfl Hr6.out]
              exact ⟨hC2, rfl⟩
            simp only [Act.put, List.setIfInBounds_toArray, List.set_cons_succ, List.set_cons_zero, Nat.reduceAdd]
            iterate 2
              apply wpLex_step
              · rfl
              · intro L w' hC hL hd
                clear hd
                have HC := Lib.hid hC
                clear hC
                go_simp
                exact ⟨HC.out.keep _ (by decide) (by decide) (by decide), rfl⟩
              simp only [Act.put, List.setIfInBounds_toArray, List.set_cons_succ, List.set_cons_zero, Nat.reduceAdd]
            apply wpLex_step
            · rfl
            · intro L w' hC hL hd
              obtain ⟨hw, hC2⟩ := hC.at3 hL (cover (m := 15) (by kernel_rfl) hd) (by decide) (by decide)
              subst hw
              have HC2 := Lib.hid hC2
              clear hd hC hL hC2
              go_simp
              exact ⟨HC2.out, rfl⟩
            simp only [Act.put, Nat.reduceAdd]
            apply wpLex_nil
            intro L w' hC hd
            obtain rfl := hC.end_ (hd 17 (by decide))
            clear hC hd
            go_wp2_with fail
            go_roundw
            case rel =>
              have hm : memS (gs.take (k + 1)) = memS (gs.take k) ++ gi ++ List.replicate mn 0 := by
                rw [memS_snoc _ _ _ Hgk.out, List.append_assoc]
                unfold wordsG
                rw [show (zn : Int).toNat - gi.length = mn by rw [Hil.out]; exact Hmn.out]
              have hB7 : Below base W3 (w6.setCell ⟨base + 1 + 1, 17, none⟩ (.slice B6 (n0 + il + mn) c6)) := (Below.trans (below_drew1 (Below.refl base W3)) HB6.out).setCell hgb _
              refine ⟨k + 1, by omega, by go_num, Lib.hid ?_, Lib.hid (HN3.out.next hB7 (by have := Hbase.out; omega) (by have := Hbase.out; omega) HJ.out), Lib.hid (HC3.out.below (hB7.mono Hbw.out))⟩
              rw [hm]
              exact mk_is hgb (mset HP6.out hgb (mach_set_mem _ HReg.out)) rfl rfl rfl rfl
            case measure => simp [intOf]; omega
          · obtain rfl : k = gl := by omega
            have HM0 : Hid (MachIs wr base (base + 1 + 1) (machL gs rs) (runS (machL gs rs) (beginS gs inp) 0)) := Lib.hid (by have := HMk.out; rw [List.take_of_length_le (by rw [HLg.out]; exact Nat.le_refl _)] at this; exact this)
            obtain ⟨fn, rfl⟩ := Int.eq_ofNat_of_zero_le hfu0
            have hcs : machL gs rs = imgCodes rs := by unfold machL; rw [if_pos Hf.out]
            have HGc : Hid (GoodC (machL gs rs)) := Lib.hid (by rw [hcs]; exact goodC_of HRo.out Hf.out)
            have HGs : Hid (GoodS (machL gs rs) (beginS gs inp)) := Lib.hid (by rw [hcs]; exact good_begin HRo.out Hf.out h30')
            obtain ⟨e1, e2, e3⟩ := run_fine (HfR.out.trans HE.out)
            rw [HsR.out, ← hcs] at e1
            rw [HlR.out, ← hcs] at e2
            rw [HtR.out, ← hcs] at e3
            have E1 := Lib.hid e1
            have E2 := Lib.hid e2
            have E3 := Lib.hid e3
            clear hcs e1 e2 e3 HMk
            go_wp2_with fail
            generalize hcss : machL gs rs = css at *
            clear hcss
            generalize hs0 : beginS gs inp = s0 at *
            have Hs0 : Hid (s0.steps = 0) := Lib.hid (by rw [← hs0]; rfl)
            clear hs0
            go_loopg [] fn (goRel css s0 fn w b0 w.heap.size (.slice Ag k cg) rv J base W.heap.size w1.heap.size (.slice Ac css.length cc))
            case atStart => exact ⟨0, by omega, HM0, Hs0, HNk, HCk⟩
            case round =>
              obtain ⟨j, hj, HMj, HSj, HNj, HCj⟩ := hrel
              obtain ⟨sj, hsj⟩ : ∃ sj, runS css s0 j = sj := ⟨_, rfl⟩
              have HGj := Lib.hid (good_run HGc.out HGs.out j)
              have Hsj := Lib.hid hsj
              rw [hsj] at HMj HSj HGj
              clear hsj HM0 HNk HCk
              obtain ⟨hgb, cvj, mvj, lvj, ivj, ovj, psj, hmj⟩ := HMj.out
              obtain ⟨Aoj, coj, hovj⟩ := row_form hmj.2.hout
              subst hovj
              have d24 : wr.cell? ⟨base + 1 + 1, 24, none⟩ = some (.bool sj.over) := (hmj.1.cell 24).trans (mach_tail HGj.out.regs 7)
              have d23 : wr.cell? ⟨base + 1 + 1, 23, none⟩ = some (.int .i64 (j : Int)) := by rw [← HSj.out]; exact (hmj.1.cell 23).trans (mach_tail HGj.out.regs 6)
              have d20 : wr.cell? ⟨base + 1 + 1, 20, none⟩ = some (.int .i64 sj.state) := (hmj.1.cell 20).trans (mach_tail HGj.out.regs 3)
              have d21 : wr.cell? ⟨base + 1 + 1, 21, none⟩ = some (.int .i64 sj.value) := (hmj.1.cell 21).trans (mach_tail HGj.out.regs 4)
              have d22 : wr.cell? ⟨base + 1 + 1, 22, none⟩ = some (.slice Aoj sj.out.length coj) := (hmj.1.cell 22).trans (mach_tail HGj.out.regs 5)
              have df20 := hmj.1.frozen 20
              have HPj := Lib.hid hmj
              obtain ⟨ob, hob⟩ : ∃ ob, sj.over = ob := ⟨_, rfl⟩
              have HOb := Lib.hid hob
              rw [hob] at d24
              clear hmj hob
              cases ob
              · by_cases hlt : j < fn
                · go_wp2_with fail
                  refine (step_any wr base (base + 1 + 1) css sj HMj.out HGc.out HGj.out HOb.out (by have := HSj.out; omega)).mono ?_
                  rintro e w2 ⟨rfl, hm2, hb2⟩
                  have HM2 := Lib.hid hm2
                  have HN2 := Lib.hid (HNj.out.next hb2 (by have := Hbase.out; omega) (by have := Hbase.out; omega) HJ.out)
                  have HC2 := Lib.hid (HCj.out.below (hb2.mono Hbw.out))
                  have hz2 : w.heap.size ≤ w2.heap.size := by have := hb2.size; have := Hbase.out; have := HPj.out.1.lt; omega
                  clear hm2 hb2 d20 d21 d22 d23 d24 df20
                  go_wp2_with fail
                  refine (HF.out sj.pos.1 sj.pos.2 w2 (metS css s0 j) hz2 HN2.out.kept).mono ?_
                  rintro e w3 ⟨rfl, hk3, hb3, hJ3⟩
                  have ho : (runS css s0 j).over = false := by rw [Hsj.out]; exact HOb.out
                  obtain ⟨e1, e2⟩ := run_succ ho
                  rw [Hsj.out] at e1 e2
                  have E1' := Lib.hid e1
                  have E2' := Lib.hid e2
                  have HM3 := Lib.hid (HM2.out.kept hk3)
                  have HC3 := Lib.hid (HC2.out.kept hk3)
                  have HN3 := Lib.hid (HN2.out.met hk3 hb3 hJ3)
                  have HS3 : Hid ((runS css s0 (j + 1)).steps = j + 1) := Lib.hid (by rw [e1, step_steps HGj.out HOb.out, HSj.out])
                  clear hk3 hb3 hJ3 ho e1 e2
                  go_wp2_with fail
                  go_roundg (fn - (j + 1))
                  case measure => omega
                  case rel => exact ⟨j + 1, by omega, by rw [E1'.out]; exact HM3, HS3, by rw [E2'.out]; exact HN3, HC3⟩
                · obtain rfl : j = fn := by omega
                  go_upto_region 18 with fail
                  have H2 := Lib.hid (mset HPj.out hgb (mach_set_state 1 HGj.out.regs))
                  have hB2 : Below base wr (wr.setCell ⟨base + 1 + 1, 20, none⟩ (.int .i64 1)) := (Below.refl _ _).setCell hgb _
                  have HN2 := Lib.hid (HNj.out.next hB2 (by have := Hbase.out; omega) (by have := Hbase.out; omega) HJ.out)
                  have HC2 := Lib.hid (HCj.out.below (hB2.mono Hbw.out))
                  clear hB2 d20 d21 d22 d23 d24 df20
                  generalize wr.setCell ⟨base + 1 + 1, 20, none⟩ (.int .i64 1) = w2 at *
                  have d23 : w2.cell? ⟨base + 1 + 1, 23, none⟩ = some (.int .i64 (j : Int)) := by rw [← HSj.out]; exact (H2.out.1.cell 23).trans (mach_tail (s := { sj with state := 1 }) HGj.out.regs 6)
                  have d20 : w2.cell? ⟨base + 1 + 1, 20, none⟩ = some (.int .i64 1) := (H2.out.1.cell 20).trans (mach_tail (s := { sj with state := 1 }) HGj.out.regs 3)
                  have d21 : w2.cell? ⟨base + 1 + 1, 21, none⟩ = some (.int .i64 sj.value) := (H2.out.1.cell 21).trans (mach_tail (s := { sj with state := 1 }) HGj.out.regs 4)
                  have d22 : w2.cell? ⟨base + 1 + 1, 22, none⟩ = some (.slice Aoj sj.out.length coj) := (H2.out.1.cell 22).trans (mach_tail (s := { sj with state := 1 }) HGj.out.regs 5)
                  have q0 := HN2.out.res.cell 0
                  have q1 := HN2.out.res.cell 1
                  have q2 := HN2.out.res.cell 2
                  have q3 := HN2.out.res.cell 3
                  have qf0 := HN2.out.res.frozen 0
                  have qf1 := HN2.out.res.frozen 1
                  have qf2 := HN2.out.res.frozen 2
                  have qf3 := HN2.out.res.frozen 3
                  have t0 := HN2.out.flt.cell 0
                  have t1 := HN2.out.flt.cell 1
                  have tf0 := HN2.out.flt.frozen 0
                  have tf1 := HN2.out.flt.frozen 1
                  go_region
                  all_goals
                    go_wp2_with fail
                    have hS := HSj.out
                    subst hS
                    have hT : sj.told = { sj with state := 1 } := by unfold Mch.told; rw [HOb.out]; rfl
                    have hend := HN2.out.end_ (.int .i64 1) (.int .i64 sj.value) (.slice Aoj sj.out.length coj) (.int .i64 (sj.steps : Int)) (.int .i64 0) (.int .i64 0)
                    refine end_tmp_cells rfl rfl rfl hend.1.drew hend.2.1.drew Tryd.underlying28 rfl Tryd.underlying30 rfl (by kernel_rfl) (by kernel_rfl) rfl ?_
                    rw [← HPE.out, E1.out, E2.out, E3.out, HE.out, Int.toNat_natCast, Hsj.out, hT]
                    exact run_done (s := { sj with state := 1 }) HN2.out HC2.out HZ.out (by have := H2.out.1.lt; have := Hbw.out; omega) H2.out.2.hout rfl (by have := Hbase.out; omega) rfl hb0 HJ.out
              · go_wp2_with fail
                have q0 := HNj.out.res.cell 0
                have q1 := HNj.out.res.cell 1
                have q2 := HNj.out.res.cell 2
                have q3 := HNj.out.res.cell 3
                have qf0 := HNj.out.res.frozen 0
                have qf1 := HNj.out.res.frozen 1
                have qf2 := HNj.out.res.frozen 2
                have qf3 := HNj.out.res.frozen 3
                have t0 := HNj.out.flt.cell 0
                have t1 := HNj.out.flt.cell 1
                have tf0 := HNj.out.flt.frozen 0
                have tf1 := HNj.out.flt.frozen 1
                go_region
                all_goals
                  go_wp2_with fail
                  have hS := HSj.out
                  subst hS
                  have ho : (runS css s0 sj.steps).over = true := by rw [Hsj.out]; exact HOb.out
                  obtain ⟨e1, e2⟩ := run_over ho fn (by omega)
                  have hend := HNj.out.end_ (.int .i64 sj.state) (.int .i64 sj.value) (.slice Aoj sj.out.length coj) (.int .i64 (sj.steps : Int)) (.int .i64 0) (.int .i64 0)
                  refine end_tmp_cells rfl rfl rfl hend.1.drew hend.2.1.drew Tryd.underlying28 rfl Tryd.underlying30 rfl (by kernel_rfl) (by kernel_rfl) rfl ?_
                  rw [← HPE.out, E1.out, E2.out, E3.out, HE.out, Int.toNat_natCast, e1, e2, Hsj.out, show sj.told = sj by unfold Mch.told; rw [HOb.out]; rfl]
                  exact run_done HNj.out HCj.out HZ.out (by have := HPj.out.1.lt; have := Hbw.out; omega) HPj.out.2.hout rfl (by have := Hbase.out; omega) rfl hb0 HJ.out
  · have hfb : ((machF gs rs).1 != 0) = true := by simp [hf]
    have Hf := Lib.hid hf
    clear hf
    go_wp2_with fail
    go_region
    all_goals
      go_wp2_with fail
      have hE : fR = machF gs rs := by rw [← HfR.out]; unfold runF; rw [if_pos Hf.out]
      obtain ⟨e1, e2, e3⟩ := run_bad (HfR.out.trans hE) Hf.out
      rw [HsR.out] at e1
      rw [HlR.out] at e2
      rw [HtR.out] at e3
      have hend := HN1.out.end_ (.int .i64 0) (.int .i64 0) (.slice none 0 0) (.int .i64 0) (.int .i64 (machF gs rs).1) (.int .i64 (machF gs rs).2)
      refine end_tmp_cells rfl rfl rfl hend.1.drew hend.2.1.drew Tryd.underlying28 rfl Tryd.underlying30 rfl (by kernel_rfl) (by kernel_rfl) rfl ?_
      rw [← HPE.out, e1, e2, e3, hE]
      exact run_fault HN1.out (below_drew1 (hend.2.2.mono (by omega))) hb0 HJ.out rfl _
end Go.Proofs.YtkiaffaieniebaaDoor
