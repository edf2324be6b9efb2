/-
  Several texts in one (WkF WkH): what each proves stands at its theorems.
  Conditions: as the theorems say.
-/
import Derived.Test.YtkiaffaieniebaaDoorWkC
import Derived.Test.YtkiaffaieniebaaDoorWkE
import Derived.Test.YtkiaffaieniebaaDoorLiF
namespace Go.Proofs.YtkiaffaieniebaaDoor
open Go.RowKit

theorem Step_any (m : Mac) (len rts : Nat) (W : World) (g base : Nat) (codes : List (List Mac)) (inp : List Int) (iv : Value) (s : Mch) (c : Fr) (cs : List Fr) (h : WIs W g base inp s) (hc : s.calls = c :: cs) (hG : GoodS codes s) (hm : GoodM m len rts)
    (hpc : c.pc < 5000) (hst : s.steps < 1000000) (hin : IntsAt W base iv inp) (hg : base ≤ g) :
    Calls Tryd.prog 40 #[.pointer (some ⟨g, 0, none⟩), macV m, iv] W fun e W' => e = .returned (.tuple #[]) ∧ WIs W' g base inp (doS m c.next cs (s.begun c cs)) ∧ Below base W W' := by
  have h1 := hm.op1
  have h2 := hm.op2
  by_cases hs : m.op = 33 ∨ m.op = 34 ∨ m.op = 35 ∨ m.op = 36 ∨ m.op = 44 ∨ m.op = 46
  · exact StepB_any m hs len rts W g base codes inp iv s c cs h hc hG hm hpc hst hin hg
  · exact StepA_any m (by omega) len rts W g base codes inp iv s c cs h hc hG hm hpc hst hin hg
set_option maxRecDepth 100000 in
set_option maxHeartbeats 6000000 in
theorem RMet_any (gv rv iv : Value) (gs : List Glob) (rs : List Rout) (inp : List Int) (fuel : Int) (w : World) (hg : GlobsAt w w.heap.size gv gs) (hr : RoutsAt w w.heap.size rv rs) (hin : IntsAt w w.heap.size iv inp)
    (hgo : GOk gs) (hro : ROk rs) : Calls Tryd.prog 19 #[.agg #[gv, rv], iv, .int .i64 fuel] w (MetPost w (metRows (runL gs rs inp fuel) (runT gs rs inp fuel)) (runO gs rs inp fuel) (runF gs rs inp fuel)) := by
  have hA : Below w.heap.size w (((w.alloc (.cells #[gv, rv] 36)).alloc (.cells #[.int .i64 0, .int .i64 0, .slice none 0 0, .int .i64 0] 28)).alloc (.cells #[.int .i64 0, .int .i64 0] 30)) := (((Below.refl _ _).alloc (Nat.le_refl _) _).alloc (by simp) _).alloc (by simp; omega) _
  have HN : Hid (RunNow w w.heap.size w.heap.size gv rv (fun _ _ => True) [] (((w.alloc (.cells #[gv, rv] 36)).alloc (.cells #[.int .i64 0, .int .i64 0, .slice none 0 0, .int .i64 0] 28)).alloc (.cells #[.int .i64 0, .int .i64 0] 30))) := Lib.hid
    ⟨((Blk.new w _ _).alloc _).alloc _, Blk.alloc (by have := Blk.new (w.alloc (.cells #[gv, rv] 36)) 28 #[.int .i64 0, .int .i64 0, .slice none 0 0, .int .i64 0]; simpa using this) _,
      by have := Blk.new ((w.alloc (.cells #[gv, rv] 36)).alloc (.cells #[.int .i64 0, .int .i64 0, .slice none 0 0, .int .i64 0] 28)) 30 #[.int .i64 0, .int .i64 0]; simpa using this, hA, trivial, fun g t cs hg hc => hc.below hA hg⟩
  have HZ3 : Hid ((((w.alloc (.cells #[gv, rv] 36)).alloc (.cells #[.int .i64 0, .int .i64 0, .slice none 0 0, .int .i64 0] 28)).alloc (.cells #[.int .i64 0, .int .i64 0] 30)).heap.size = w.heap.size + 1 + 1 + 1) := Lib.hid (by simp)
  have HG := Lib.hid hg
  have HR := Lib.hid hr
  have HI := Lib.hid hin
  have HRo := Lib.hid hro
  obtain ⟨fM, hfM⟩ : ∃ f, machF gs rs = f := ⟨_, rfl⟩
  have HCk : Hid (∀ W, Below w.heap.size w W → Calls Tryd.prog 37 #[.agg #[gv, rv]] W fun e w' => e = .returned (.agg #[.int .i64 fM.1, .int .i64 fM.2]) ∧ Below W.heap.size W w') := Lib.hid fun W hb => by
    rw [← hfM]
    exact MachineCheck_any gv rv gs rs W ((hg.below hb (Nat.le_refl _)).more hb.size) ((hr.below hb (Nat.le_refl _)).more hb.size) hgo hro
  have HBad : Hid (∀ (W6 : World) (f : Int × Int), runF gs rs inp fuel = f → f.1 ≠ 0 → Below w.heap.size w W6 → MetPost w (metRows (runL gs rs inp fuel) (runT gs rs inp fuel)) (runO gs rs inp fuel) (runF gs rs inp fuel) (.returned (.tuple #[.slice none 0 0, .agg #[.int .i64 0, .int .i64 0, .slice none 0 0, .int .i64 0], .agg #[.int .i64 f.1, .int .i64 f.2]])) W6) := Lib.hid fun W6 f hf h0 hb => by
    obtain ⟨q1, q2, q3⟩ := run_bad hf h0
    rw [q1, q2, hf]
    exact ⟨_, _, rfl, RowsOwn.nil _ _, World.ownsRow_nil _ _ _ _, hb⟩
  have HFm : Hid (fM.1 ≠ 0 → runF gs rs inp fuel = fM) := Lib.hid fun h => by unfold runF; rw [if_pos (by rw [hfM]; exact h), hfM]
  have HFf : Hid (fM.1 = 0 → (fuel < 0 ∨ 900000 < fuel) → runF gs rs inp fuel = (3, -1)) := Lib.hid fun h h2 => by unfold runF; rw [if_neg (by rw [hfM]; simpa using h), if_pos h2]
  have HFi : Hid (fM.1 = 0 → ¬ (fuel < 0 ∨ 900000 < fuel) → 30 < inp.length → runF gs rs inp fuel = (2, -1)) := Lib.hid fun h h2 h3 => by unfold runF; rw [if_neg (by rw [hfM]; simpa using h), if_neg h2, if_pos h3]
  have HFz : Hid (fM.1 = 0 → ¬ (fuel < 0 ∨ 900000 < fuel) → ¬ (30 < inp.length) → runF gs rs inp fuel = (0, 0)) := Lib.hid fun h h2 h3 => by unfold runF; rw [if_neg (by rw [hfM]; simpa using h), if_neg h2, if_neg h3]
  have HMz : Hid (fM.1 = 0 → (machF gs rs).1 = 0) := Lib.hid fun h => by rw [hfM]; exact h
  obtain ⟨m1, m2⟩ := fM
  obtain ⟨PE, hPE⟩ : ∃ PE, MetPost w (metRows (runL gs rs inp fuel) (runT gs rs inp fuel)) (runO gs rs inp fuel) (runF gs rs inp fuel) = PE := ⟨_, rfl⟩
  rw [hPE] at HBad ⊢
  have HPE := Lib.hid hPE
  obtain ⟨Ai, ci, hiv, _⟩ := id hin
  subst hiv
  obtain ⟨il, hil⟩ : ∃ n, inp.length = n := ⟨_, rfl⟩
  have HIl := Lib.hid hil
  rw [hil] at HI HFi HFz ⊢
  obtain ⟨Ar, cr, hrv, _⟩ := id hr
  subst hrv
  obtain ⟨nr, hnr⟩ : ∃ n, rs.length = n := ⟨_, rfl⟩
  have HNr := Lib.hid hnr
  rw [hnr] at HN HR HCk HZ3 ⊢
  obtain ⟨Ag, cg, hgv, _⟩ := id hg
  subst hgv
  obtain ⟨ng, hng⟩ : ∃ n, gs.length = n := ⟨_, rfl⟩
  rw [hng] at HN HG HCk HZ3 ⊢
  clear hA hg hr hin hgo hro hfM hPE hil hnr hng
  go_enter Tryd.func19, Tryd.ntmps19
  go_wp2_with fail
  generalize ((w.alloc (.cells #[.slice Ag ng cg, .slice Ar nr cr] 36)).alloc (.cells #[.int .i64 0, .int .i64 0, .slice none 0 0, .int .i64 0] 28)).alloc (.cells #[.int .i64 0, .int .i64 0] 30) = W3 at *
  refine (HCk.out W3 HN.out.below).mono ?_
  rintro e w1 ⟨rfl, hb1⟩
  have hz1 : W3.heap.size ≤ w1.heap.size := hb1.size
  have hz3 := HZ3.out
  have hA4 : Below w1.heap.size w1 (w1.alloc (.cells #[.int .i64 m1, .int .i64 m2] 30)) := (Below.refl _ _).alloc (Nat.le_refl _) _
  have HN4 := Lib.hid ((HN.out.next hb1 (by omega) (by omega) (fun _ _ _ _ _ => trivial)).next hA4 (by omega) (by omega) (fun _ _ _ _ _ => trivial))
  have HK9 := Lib.hid (Blk.new w1 30 #[.int .i64 m1, .int .i64 m2])
  clear hb1 hA4 HN HCk
  go_upto_region 2 with fail
  have hz4 : w1.heap.size < (w1.alloc (.cells #[.int .i64 m1, .int .i64 m2] 30)).heap.size := HK9.out.lt
  generalize w1.alloc (.cells #[.int .i64 m1, .int .i64 m2] 30) = W4 at *
  generalize w1.heap.size = g9 at *
  have e0 := HK9.out.cell 0
  have e1 := HK9.out.cell 1
  have r0 := HN4.out.res.cell 0
  have r1 := HN4.out.res.cell 1
  have r2 := HN4.out.res.cell 2
  have r3 := HN4.out.res.cell 3
  have k0 := HN4.out.flt.cell 0
  have k1 := HN4.out.flt.cell 1
  have rf0 := HN4.out.res.frozen 0
  have rf1 := HN4.out.res.frozen 1
  have rf2 := HN4.out.res.frozen 2
  have rf3 := HN4.out.res.frozen 3
  have kf0 := HN4.out.flt.frozen 0
  have kf1 := HN4.out.flt.frozen 1
  by_cases hm1 : m1 = 0
  · subst hm1
    by_cases hfu : fuel < 0 ∨ 900000 < fuel
    · have Hf := Lib.hid (HFf.out rfl hfu)
      rcases hfu with hfu | hfu
      · go_wp2_with fail
        have hend := HN4.out.end_ (.int .i64 0) (.int .i64 0) (.slice none 0 0) (.int .i64 0) (.int .i64 3) (.int .i64 (-1))
        refine end_tmp_cells rfl rfl rfl hend.1 hend.2.1 Tryd.underlying28 rfl Tryd.underlying30 rfl (by kernel_rfl) (by kernel_rfl) rfl ?_
        exact HBad.out _ (3, (-1)) Hf.out (by decide) (HN4.out.below.trans (hend.2.2.mono (by omega)))
      · have hfn : ¬ (fuel < 0) := by omega
        go_wp2_with fail
        have hend := HN4.out.end_ (.int .i64 0) (.int .i64 0) (.slice none 0 0) (.int .i64 0) (.int .i64 3) (.int .i64 (-1))
        refine end_tmp_cells rfl rfl rfl hend.1 hend.2.1 Tryd.underlying28 rfl Tryd.underlying30 rfl (by kernel_rfl) (by kernel_rfl) rfl ?_
        exact HBad.out _ (3, (-1)) Hf.out (by decide) (HN4.out.below.trans (hend.2.2.mono (by omega)))
    · have hf0 : ¬ (fuel < 0) := by omega
      have hf9 : ¬ (900000 < fuel) := by omega
      by_cases hi30 : 30 < il
      · have hi31 : (30 : Int) < (il : Int) := by omega
        have Hf := Lib.hid (HFi.out rfl hfu hi30)
        go_wp2_with fail
        have hend := HN4.out.end_ (.int .i64 0) (.int .i64 0) (.slice none 0 0) (.int .i64 0) (.int .i64 2) (.int .i64 (-1))
        refine end_tmp_cells rfl rfl rfl hend.1 hend.2.1 Tryd.underlying28 rfl Tryd.underlying30 rfl (by kernel_rfl) (by kernel_rfl) rfl ?_
        exact HBad.out _ (2, (-1)) Hf.out (by decide) (HN4.out.below.trans (hend.2.2.mono (by omega)))
      · have hi31 : ¬ ((30 : Int) < (il : Int)) := by omega
        have Hf := Lib.hid (HFz.out rfl hfu hi30)
        have HFi30 := Lib.hid hi30
        clear hi30 HFm HFf HFi HFz HBad r0 r1 r2 r3 k0 k1 rf0 rf1 rf2 rf3 kf0 kf1
        have hmz := HMz.out rfl
        have HMz' := Lib.hid hmz
        have HFu := Lib.hid hfu
        have HGC := Lib.hid (goodC_of HRo.out hmz)
        have hn40 := (machF_zero hmz).2.2.1
        rw [HNr.out] at hn40
        obtain ⟨css, hcss⟩ : ∃ l, imgCodes rs = l := ⟨_, rfl⟩
        have HCs := Lib.hid hcss
        have HCk : Hid (∀ (k : Nat) (r : Rout), rs[k]? = some r → css[k]? = some (readL r.code).2) := Lib.hid fun k r hr => by rw [← hcss]; unfold imgCodes; rw [List.getElem?_map, hr]; rfl
        have HCl : Hid (css.length = nr) := Lib.hid (by rw [← hcss, imgCodes_len, HNr.out])
        have HC5 : Hid (∀ l ∈ css, l.length ≤ 5000) := Lib.hid fun l hl => by
          obtain ⟨j, hj⟩ := List.mem_iff_getElem?.1 hl
          rw [← hcss] at hj
          exact (HGC.out _ _ hj).many
        clear hfu hmz HMz hcss
        go_wp2_with fail
        clear hi31 hf0 hf9 e0 e1
        go_loopw [10, 11, 12] (fun cv mv i wr => ∃ (k : Nat) (R : Nat → Value), k ≤ nr ∧ i = .int .i64 k ∧ Hid (Below W4.heap.size W4 wr) ∧ Hid (CodesOwn wr W4.heap.size cv (css.take k)) ∧ Hid (MetG wr W4.heap.size mv R (fun q => List.replicate (css.getD q []).length 0) k)) (fun _ _ i _ => nr - (intOf i).toNat)
        case atStart => exact ⟨0, fun _ => undef, Nat.zero_le _, rfl, Lib.hid (Below.refl _ _), Lib.hid (CodesOwn.nil _ _), Lib.hid (MetG.nil _ _ _ _)⟩
        case round =>
          obtain ⟨k, Rw, hk, rfl, HB, HCo, HMt⟩ := hrel
          have hI := HN4.out.img.below HB.out HN4.out.img.lt
          have i1 := hI.cell 1
          by_cases hlt : k < nr
          · obtain ⟨⟨rn, rcode⟩, hr⟩ : ∃ r, rs[k]? = some r := ⟨rs[k]'(by rw [HNr.out]; exact hlt), List.getElem?_eq_getElem _⟩
            obtain ⟨A', c', e', _, _, h3⟩ := HR.out
            rw [HNr.out] at e'
            obtain rfl : Ar = A' := (Value.slice.inj e').1
            obtain ⟨bR, oR, hAr, hbR, hcell⟩ := h3 (by rw [HNr.out]; omega)
            subst hAr
            obtain ⟨cv0, _, n1, hbat⟩ := hcell k _ hr
            have HBw := Lib.hid (HN4.out.below.trans (HB.out.mono (HN4.out.below.size)))
            have d1 := (bcell HBw.out hbR).trans n1
            have hok := (HRo.out _ (List.mem_of_getElem? hr)).2
            have HRead := Lib.hid (BytesRead_any cv0 rcode wr ((hbat.below HBw.out (Nat.le_refl _)).more HBw.out.size) hok)
            have hck := HCk.out k _ hr
            simp only at hck
            obtain ⟨l, hl⟩ : ∃ l, (readL rcode).2 = l := ⟨_, rfl⟩
            rw [hl] at HRead hck
            have HCkk := Lib.hid hck
            have hm5 := HC5.out l (List.mem_of_getElem? hck)
            have hk0 : (0 : Int) ≤ (k : Int) := Int.natCast_nonneg _
            have hk1 : (k : Int) < (nr : Int) := by omega
            clear e' h3 hcell n1 hbat hok hck hl hr hI
            go_wp2_with fail
            refine HRead.out.mono ?_
            rintro e w2 ⟨lv, rfl, hlo, hb2⟩
            obtain ⟨Al, cl, hlv⟩ := row_form hlo
            obtain ⟨m, hm⟩ : ∃ m, l.length = m := ⟨_, rfl⟩
            have Hm := Lib.hid hm
            rw [hm] at hlv hm5
            subst hlv
            have HCo2 := Lib.hid (HCo.out.below hb2 rfl)
            have HMt2 := Lib.hid (HMt.out.below hb2)
            have HLo2 := Lib.hid hlo
            have HB2 := Lib.hid (HB.out.trans (hb2.mono HB.out.size))
            have hzr : W4.heap.size ≤ wr.heap.size := HB.out.size
            obtain ⟨f1, f2⟩ := (readL rcode).1
            clear hlo hb2 hm HCo HMt d1 i1
            go_upto_region 14 with fail
            have hA5 : Below w2.heap.size w2 (w2.alloc (.cells #[.int .i64 f1, .int .i64 f2] 30)) := (Below.refl _ _).alloc (Nat.le_refl _) _
            have HCo5 := Lib.hid (HCo2.out.below hA5 rfl)
            have HMt5 := Lib.hid (HMt2.out.below hA5)
            have HLo5 := Lib.hid ((HLo2.out.below hA5 rfl).more hzr)
            have HB5 := Lib.hid (HB2.out.trans (hA5.mono HB2.out.size))
            clear hA5 HCo2 HMt2 HLo2 HB2
            generalize w2.alloc (.cells #[.int .i64 f1, .int .i64 f2] 30) = W5 at *
            obtain ⟨rs', q1, q2, q3⟩ := HCo5.out
            have HQ2 := Lib.hid q2
            have HQ := Lib.hid (And.intro q1 q3)
            have hz5 : W4.heap.size ≤ W5.heap.size := HB5.out.size
            have hrl : rs'.length ≤ 40 := by rw [q1, List.length_take, HCl.out]; omega
            clear q1 q2 q3
            go_upto_region 15 with (at_builtin; refine app_one rfl _ _ 65 25 rfl (.slice none 0 0) 1 24 Tryd.underlying65 infoCode rfl (by decide) (by decide) W4.heap.size u10 _ _ (by rfl) HQ2.out _ [.slice Al m cl] (by rfl) rfl (fun x hx => by simp at hx; subst hx; rfl) rfl (by omega) hz5 ?_; intro v6 w6 HA6)
            have HCo6 : Hid (CodesOwn w6 W4.heap.size v6 (css.take (k + 1))) := Lib.hid (by
              rw [List.take_add_one, HCkk.out]
              exact CodesOwn.snoc HQ.out.1 HQ2.out HQ.out.2 HLo5.out HA6.out)
            have HMt6 := Lib.hid (HMt5.out.beside HQ2.out HA6.out (by decide) (by decide))
            have HB6 := Lib.hid (HB5.out.trans HA6.out.below)
            have hz6 : W4.heap.size ≤ w6.heap.size := HB6.out.size
            have hmk := fun W : World => run_make_row' (P := Tryd.prog) 26 3 (.int .i64 0) 8 Tryd.underlying26 infoInt rfl .i64 .i64 m (by omega) (by omega) W
            have hA7 : Below w6.heap.size w6 (w6.alloc (.cells (madeCells #[.int .i64 0] m) 3)) := (Below.refl _ _).alloc (Nat.le_refl _) _
            have HMt7 := Lib.hid (HMt6.out.below hA7)
            have HCo7 := Lib.hid (HCo6.out.below hA7 rfl)
            have HRow7 := Lib.hid (own_zeros w6 hz6 hm5)
            have HB7 := Lib.hid (HB6.out.trans (hA7.mono hz6))
            have hz7 : W4.heap.size ≤ (w6.alloc (.cells (madeCells #[.int .i64 0] m) 3)).heap.size := HB7.out.size
            have HFr : Hid (∀ q, q < k → ∀ b, (Value.slice (some ⟨w6.heap.size, 0, none⟩) m m).ownBlock = some b → (Rw q).ownBlock ≠ some b) := Lib.hid fun q hq b hb hb' => by
              have := (World.ownsRow.lt (HMt6.out.own q hq) b hb').2
              simp only [Value.ownBlock, Option.some.injEq] at hb
              omega
            clear hA7 HCo6 HMt6 HB6 HCo5 HMt5 HB5 hz5
            obtain ⟨A6, c6, hv6⟩ := row_form HA6.out.1
            subst hv6
            go_wp2_with (at_builtin; refine app_one rfl _ _ 41 26 rfl (.slice none 0 0) 1 24 Tryd.underlying41 infoRow rfl (by decide) (by decide) W4.heap.size u11 k ((List.range k).map Rw) (by rfl) HMt7.out.row _ [.slice (some ⟨w6.heap.size, 0, none⟩) m m] (by rfl) rfl (fun x hx => by simp at hx; subst hx; rfl) (by simp) (by omega) hz7 ?_; intro v8 w8 HA8)
            go_round
            case rel =>
              refine ⟨k + 1, fun q => if q = k then .slice (some ⟨w6.heap.size, 0, none⟩) m m else Rw q, by omega, by go_num, Lib.hid (HB7.out.trans HA8.out.below), Lib.hid (HCo7.out.beside HMt7.out.row HA8.out (by decide) (by decide)), Lib.hid ((HMt7.out.snoc HRow7.out HFr.out HA8.out).congr fun q hq => ?_)⟩
              by_cases e : q = k
              · subst e
                rw [if_pos rfl, List.getD_eq_getElem?_getD, HCkk.out, Option.getD_some, Hm.out]
              · rw [if_neg e]
            case measure => simp [intOf]; omega
          · obtain rfl : nr = k := by omega
            have hn5 : nr ≤ 40 := hn40
            obtain ⟨fn, rfl⟩ := Int.eq_ofNat_of_zero_le (show 0 ≤ fuel by have := HFu.out; omega)
            have HCo' : Hid (CodesOwn wr W4.heap.size u10 css) := Lib.hid (by have := HCo.out; rwa [List.take_of_length_le (by rw [HCl.out]; exact Nat.le_refl _)] at this)
            obtain ⟨rs', hlow⟩ := low_start (F := fun q => metLine [] q (css.getD q [])) HCo'.out (by rw [HCl.out]; exact HMt.out.congr fun q _ => (met_line_nil q _).symm)
            have HLow := Lib.hid hlow
            have HMem : Hid (∀ W', Below wr.heap.size wr W' → Calls Tryd.prog 39 #[.slice Ag ng cg] W' fun e w' => ∃ v', e = .returned v' ∧ w'.ownsRow W'.heap.size 3 1 v' (memS gs).length (intV (memS gs)) ∧ Below W'.heap.size W' w') := Lib.hid fun W' hb =>
              Memory_any _ gs W' ((HG.out.below (HN4.out.below.trans ((HB.out.trans (hb.mono HB.out.size)).mono HN4.out.below.size)) (Nat.le_refl _)).more (Nat.le_trans HN4.out.below.size (Nat.le_trans HB.out.size hb.size))) (machF_zero HMz'.out).1
            have HNr' := Lib.hid (HN4.out.next HB.out (by have := hz4; have := hz1; omega) (by have := hz4; have := hz1; omega) (fun _ _ _ _ _ => trivial))
            have Hh4 : Hid (w.heap.size + 3 ≤ W4.heap.size ∧ W4.heap.size ≤ wr.heap.size) := Lib.hid ⟨by omega, HB.out.size⟩
            clear hlow HCo HMt HB HCo' hI
            go_upto_region 16 with fail
            clear i1
            have HW0 : Hid (NewW (pvW (.pointer (some ⟨w.heap.size, 0, none⟩)) (.slice Ag ng cg)) wr.heap.size wr (memS gs) (fun _ => none) { wr with drawn := wr.drawn + 1 }) := Lib.hid (NewW.start (below_drew (Below.refl _ _)) (Nat.le_refl _))
            have HP : Hid ((∀ i, isNew i → (pvW (.pointer (some ⟨w.heap.size, 0, none⟩)) (.slice Ag ng cg)) i = none) ∧ (pvW (.pointer (some ⟨w.heap.size, 0, none⟩)) (.slice Ag ng cg)) 1 = some (.pointer (some ⟨w.heap.size, 0, none⟩)) ∧ (pvW (.pointer (some ⟨w.heap.size, 0, none⟩)) (.slice Ag ng cg)) 2 = some (.slice Ag ng cg) ∧ (pvW (.pointer (some ⟨w.heap.size, 0, none⟩)) (.slice Ag ng cg)) 7 = none ∧ (pvW (.pointer (some ⟨w.heap.size, 0, none⟩)) (.slice Ag ng cg)) 8 = none ∧ (pvW (.pointer (some ⟨w.heap.size, 0, none⟩)) (.slice Ag ng cg)) 9 = none) := Lib.hid ⟨pvW_new _ _, rfl, rfl, rfl, rfl, rfl⟩
            generalize pvW (.pointer (some ⟨w.heap.size, 0, none⟩)) (.slice Ag ng cg) = pv at *
            refine wp_region_keeps (NewW pv wr.heap.size wr (memS gs)) (by kernel_rfl) (by kernel_rfl) HW0.out ?_ ?_
            · refine ⟨⟨rfl, ?_⟩, ⟨rfl, ?_⟩, ⟨rfl, ?_⟩, ⟨rfl, ?_⟩, ⟨rfl, ?_⟩, ⟨rfl, ?_⟩, ⟨rfl, ?_⟩, ⟨rfl, ?_⟩, ⟨rfl, ?_⟩, ⟨rfl, ?_⟩, trivial⟩
              all_goals
                intro σ vs w' hvs hcl hC hk hdep
                simp only [putO, Act.put, List.setIfInBounds_toArray, List.set_cons_succ, List.set_cons_zero, Nat.reduceAdd]
                have HC := Lib.hid hC
                have HD := Lib.hid hdep
                have HL := Lib.hid hcl
                have HS := Lib.hid hk
                clear hC hdep hcl hk hvs
              · have hmk := fun W : World => run_make_row' (P := Tryd.prog) 26 3 (.int .i64 0) 8 Tryd.underlying26 infoInt rfl .i64 .i64 16 (by omega) (by omega) W
                have n7 := not_done HL.out HS.out (j := 7) rfl rfl
                have n8 := not_done HL.out n7 (j := 8) rfl rfl
                have n9 := not_done HL.out n8 (j := 9) rfl rfl
                go_simp
                exact HC.out.make (.inl rfl) HP.out.1 n7 n8 n9 ((Below.refl _ _).alloc (Nat.le_refl _) _) (own_zeros (m := 16) w' (Nat.le_refl _) (by decide))
              · go_simp
                exact HC.out.known HP.out.2.1 (.inl rfl)
              · rw [HC.out.val (HD.out ⟨1, .data⟩ (by simp) rfl) HP.out.2.1]
                have c0 := (HNr'.out.img.below HC.out.low.1 HNr'.out.img.lt).cell 0
                go_simp
                exact HC.out.known HP.out.2.2.1 (.inr rfl)
              · rw [HC.out.val (HD.out ⟨2, .data⟩ (by simp) rfl) HP.out.2.2.1]
                have n7 := not_done HL.out HS.out (j := 7) rfl rfl
                have n8 := not_done HL.out n7 (j := 8) rfl rfl
                have n9 := not_done HL.out n8 (j := 9) rfl rfl
                have HCall := Lib.hid (HMem.out w' HC.out.low.1)
                go_simp
                refine HCall.out.mono ?_
                rintro e w2 ⟨v', rfl, h1, h2⟩
                exact ⟨_, rfl, HC.out.make (.inr (.inl rfl)) HP.out.1 n7 n8 n9 h2 h1⟩
              · have hmk := fun W : World => run_make_row' (P := Tryd.prog) 26 3 (.int .i64 0) 8 Tryd.underlying26 infoInt rfl .i64 .i64 120 (by omega) (by omega) W
                have n7 := not_done HL.out HS.out (j := 7) rfl rfl
                have n8 := not_done HL.out n7 (j := 8) rfl rfl
                have n9 := not_done HL.out n8 (j := 9) rfl rfl
                go_simp
                exact HC.out.make (.inr (.inr (.inl rfl))) HP.out.1 n7 n8 n9 ((Below.refl _ _).alloc (Nat.le_refl _) _) (own_zeros (m := 120) w' (Nat.le_refl _) (by decide))
              · have n7 := not_done HL.out HS.out (j := 7) rfl rfl
                have n8 := not_done HL.out n7 (j := 8) rfl rfl
                have n9 := not_done HL.out n8 (j := 9) rfl rfl
                go_simp
                exact HC.out.make (.inr (.inr (.inr (.inl rfl)))) HP.out.1 n7 n8 n9 ((Below.refl _ _).alloc (Nat.le_refl _) _) (one_zero w')
              · have n7 := not_done HL.out HS.out (j := 7) rfl rfl
                have n8 := not_done HL.out n7 (j := 8) rfl rfl
                have n9 := not_done HL.out n8 (j := 9) rfl rfl
                go_simp
                exact HC.out.make (.inr (.inr (.inr (.inr rfl)))) HP.out.1 n7 n8 n9 ((Below.refl _ _).alloc (Nat.le_refl _) _) (one_zero w')
              · have n8 := not_done HL.out HS.out (j := 8) rfl rfl
                have n9 := not_done HL.out n8 (j := 9) rfl rfl
                have e0 := HD.out ⟨0, .data⟩ (by simp) rfl
                have e3 := HD.out ⟨3, .data⟩ (by simp) rfl
                have e4 := HD.out ⟨4, .data⟩ (by simp) rfl
                have e5 := HD.out ⟨5, .data⟩ (by simp) rfl
                have e6 := HD.out ⟨6, .data⟩ (by simp) rfl
                simp only at e0 e3 e4 e5 e6
                obtain ⟨A0, c0, f0⟩ := HC.out.forms (.inl rfl) e0
                obtain ⟨A3, c3, f3⟩ := HC.out.forms (.inr (.inl rfl)) e3
                obtain ⟨A4, c4, f4⟩ := HC.out.forms (.inr (.inr (.inl rfl))) e4
                obtain ⟨A5, c5, f5⟩ := HC.out.forms (.inr (.inr (.inr (.inl rfl)))) e5
                obtain ⟨A6, c6, f6⟩ := HC.out.forms (.inr (.inr (.inr (.inr rfl)))) e6
                have HB7 := Lib.hid (HC.out.build HP.out.2.2.2.1 n8 n9 e0 e3 e4 e5 e6)
                rw [f0, f3, f4, f5, f6] at HB7 ⊢
                clear e0 e3 e4 e5 e6 n8 n9 f0 f3 f4 f5 f6
                go_simp
                exact HB7.out
              · have n9 := not_done HL.out HS.out (j := 9) rfl rfl
                obtain ⟨u0, u3, u4, u5, u6, e0, e3, e4, e5, e6, e⟩ := HC.out.isBuilt (HD.out ⟨7, .data⟩ (by simp) rfl)
                have HB8 := Lib.hid (HC.out.box HP.out.2.2.2.2.1 n9 e0 e3 e4 e5 e6)
                rw [show vs 7 = _ from e]
                clear e0 e3 e4 e5 e6 n9 e
                go_simp
                exact HB8.out
              · go_simp
                exact HC.out.keep HP.out.2.2.2.2.2 (HD.out ⟨8, .data⟩ (by simp) rfl)
            intro σ vs Wn hC hall
            obtain ⟨g, e9, hgb, hWn, hBn⟩ := hC.done (hall 9 (by decide)) inp
            simp only [putO, Act.put, List.setIfInBounds_toArray, List.set_cons_succ, List.set_cons_zero, Nat.reduceAdd]
            rw [show vs 9 = ptrV g from e9]
            have HWn := Lib.hid hWn
            have HBn := Lib.hid hBn
            have Hgb := Lib.hid hgb
            generalize vs 0 = s0' at *
            generalize vs 1 = s1' at *
            generalize vs 2 = s2' at *
            generalize vs 3 = s3' at *
            generalize vs 4 = s4' at *
            generalize vs 5 = s5' at *
            generalize vs 6 = s6' at *
            generalize vs 7 = s7' at *
            generalize vs 8 = s8' at *
            clear hC hall e9 hWn hBn hgb HP HW0
            unfold ptrV
            have HN2 := Lib.hid (HNr'.out.next HBn.out (by have := Hh4.out; omega) (by have := Hh4.out; omega) (fun _ _ _ _ _ => trivial))
            have HLow2 := Lib.hid (HLow.out.under HBn.out)
            have Hbs : Hid (W4.heap.size ≤ wr.heap.size ∧ w.heap.size + 3 ≤ W4.heap.size) := Lib.hid ⟨Hh4.out.2, Hh4.out.1⟩
            have Hsz : Hid (Below w.heap.size w Wn) := HN2.out.below
            have HGs : Hid (GoodS css (beginS gs inp)) := Lib.hid (by rw [← HCs.out]; exact good_begin HRo.out HMz'.out (by rw [HIl.out]; have := HFi30.out; omega))
            have HGc : Hid (GoodC css) := Lib.hid (by rw [← HCs.out]; exact HGC.out)
            have HEnd : Hid (runO gs rs inp (fn : Int) = (runS css (beginS gs inp) fn).told ∧ runL gs rs inp (fn : Int) = css ∧ runT gs rs inp (fn : Int) = metS css (beginS gs inp) fn ∧ runF gs rs inp (fn : Int) = (0, 0)) := Lib.hid (by
              obtain ⟨q1, q2, q3⟩ := run_fine Hf.out
              rw [HCs.out, Int.toNat_natCast] at q1 q3
              exact ⟨q1, q2.trans HCs.out, q3, Hf.out⟩)
            have Hfn : Hid (fn ≤ 900000) := Lib.hid (by have := HFu.out; omega)
            have hbg := HGs.out
            generalize hs0 : beginS gs inp = s0 at *
            have Hs0 : Hid (s0.steps = 0) := Lib.hid (by rw [← hs0]; rfl)
            have HWn2 : Hid (WIs Wn g wr.heap.size inp s0) := Lib.hid (by rw [← hs0]; exact HWn.out)
            have HIn : Hid (IntsAt Wn w.heap.size (.slice Ai il ci) inp) := Lib.hid (HI.out.below HN2.out.below (Nat.le_refl _))
            have HI2 : Hid (∀ W', Below w.heap.size w W' → IntsAt W' w.heap.size (.slice Ai il ci) inp) := Lib.hid fun W' hb => HI.out.below hb (Nat.le_refl _)
            clear hs0 hbg HWn HLow HNr' HBn HMem HN4 HCs HGC HMz' HRo HG HR HIn Hsz HFu Hf HCk HC5
            generalize wr.heap.size = bs at *
            generalize W4.heap.size = h4 at *
            go_wp2_with fail
            go_loopg [] fn (refRel css s0 fn w (.slice Ag ng cg) (.slice Ar nr cr) inp g h4 bs u10 u11)
            case atStart => exact ⟨0, rs', Rw, by omega, HWn2, Hs0, HN2, HLow2⟩
            case round =>
              obtain ⟨j, rj, Rj, hj, HWj, HSj, HNj, HLj⟩ := hrel
              obtain ⟨sj, hsj⟩ : ∃ sj, runS css s0 j = sj := ⟨_, rfl⟩
              have HGj := Lib.hid (good_run HGc.out HGs.out j)
              have Hsj := Lib.hid hsj
              rw [hsj] at HWj HSj HGj
              clear hsj HWn2 HN2 HLow2
              obtain ⟨Rx, rdx, hWj, _⟩ := HWj.out
              obtain ⟨Ao, co, ho5⟩ := hWj.form (i := 5) (by omega)
              rw [show (wX sj 5).length = sj.out.length from rfl] at ho5
              have d10 : wr.cell? ⟨g, 10, none⟩ = some (.bool sj.over) := hWj.blk.cell 10
              have d9 : wr.cell? ⟨g, 9, none⟩ = some (.int .i64 (j : Int)) := by rw [← HSj.out]; exact hWj.blk.cell 9
              have d6 : wr.cell? ⟨g, 6, none⟩ = some (.int .i64 sj.state) := hWj.blk.cell 6
              have d7 : wr.cell? ⟨g, 7, none⟩ = some (.int .i64 sj.value) := hWj.blk.cell 7
              have d8 : wr.cell? ⟨g, 8, none⟩ = some (.slice Ao sj.out.length co) := (hWj.blk.cell 8).trans (by rw [← ho5]; rfl)
              have df6 := hWj.blk.frozen 6
              have HX := Lib.hid hWj
              obtain ⟨ob, hob⟩ : ∃ ob, sj.over = ob := ⟨_, rfl⟩
              have HOb := Lib.hid hob
              rw [hob] at d10
              clear hWj hob
              cases ob
              · by_cases hlt : j < fn
                · have HDs := Lib.hid (And.intro d6 (And.intro d7 (And.intro d8 df6)))
                  clear d6 d7 d8 df6 ho5
                  obtain ⟨c, cs, hcs⟩ : ∃ c cs, sj.calls = c :: cs := by
                    cases hc : sj.calls with
                    | nil => exact absurd hc (HGj.out.some HOb.out)
                    | cons c cs => exact ⟨c, cs, rfl⟩
                  obtain ⟨b3, c3, b4, c4, k3, k4, x3, x4⟩ := HWj.out.top hcs
                  obtain ⟨l, hl, hpl, hml, hgm, _⟩ := macAt_good HGc.out (HGj.out.frs c (by rw [hcs]; simp))
                  have hl5 := (HGc.out _ _ hl).many
                  have hrl := (List.getElem?_eq_some_iff.1 hl).1
                  have hlen : cs.length ≤ 30 := by have := HGj.out.calls; rw [hcs, List.length_cons] at this; omega
                  have hgl : css.getD c.r [] = l := by rw [List.getD_eq_getElem?_getD, hl]; rfl
                  have hFl : ((fun q => metLine (metS css s0 j) q (css.getD q [])) c.r).length = l.length := by simp only [hgl, met_line_len]
                  have hFx : ((fun q => metLine (metS css s0 j) q (css.getD q [])) c.r)[c.pc]? = some (((metS css s0 j).count (c.r, c.pc) : Nat) : Int) := by simp only [hgl]; exact met_line_at _ _ _ hpl
                  obtain ⟨bm, cm, bq, cq, hmv, hmr, hRq, hmx, hmf, hq4, hqb⟩ := HLj.out.cnt hl hFx
                  have HL2 := Lib.hid ((HLj.out.inc hrl hRq c.pc (((metS css s0 j).count (c.r, c.pc) : Nat) + 1 : Int)).congr (F' := fun q => metLine (metS css s0 j ++ [(c.r, c.pc)]) q (css.getD q [])) (fun q _ => by
                    have := met_line_inc (metS css s0 j) c.r c.pc q (css.getD c.r []) (css.getD q []) (fun e => by rw [e])
                    exact this))
                  rw [hFl] at hRq
                  rw [hRq] at hmr
                  have hcnt : (metS css s0 j).count (c.r, c.pc) ≤ 900000 := by
                    have h1 := List.count_le_length (a := (c.r, c.pc)) (l := metS css s0 j)
                    have h2 := metS_len css s0 j
                    have h3 := Hfn.out
                    omega
                  obtain ⟨cn, hcn⟩ : ∃ n, (metS css s0 j).count (c.r, c.pc) = n := ⟨_, rfl⟩
                  rw [hcn] at hmx HL2 hcnt
                  have ho : (runS css s0 j).over = false := by rw [Hsj.out]; exact HOb.out
                  obtain ⟨e1, e2⟩ := run_succ ho
                  rw [Hsj.out] at e1 e2
                  have hst : stepS css sj = doS (macAt css c.r c.pc) c.next cs (sj.begun c cs) := by unfold stepS; rw [hcs]
                  have hpos : sj.pos = (c.r, c.pc) := by unfold Mch.pos; rw [hcs]
                  rw [hst] at e1
                  rw [hpos] at e2
                  have HE1 := Lib.hid e1
                  have HS3 : Hid ((runS css s0 (j + 1)).steps = j + 1) := Lib.hid (by rw [e1, ← hst, step_steps HGj.out HOb.out, HSj.out])
                  rw [← e2] at HL2
                  have HHl := Lib.hid (And.intro hl hml)
                  have HGm := Lib.hid hgm
                  have HCs := Lib.hid hcs
                  obtain ⟨m, hm⟩ : ∃ m, macAt css c.r c.pc = m := ⟨_, rfl⟩
                  rw [hm] at HE1 HGm HHl
                  obtain ⟨rn, hrn⟩ : ∃ n, c.r = n := ⟨_, rfl⟩
                  obtain ⟨pn, hpn⟩ : ∃ n, c.pc = n := ⟨_, rfl⟩
                  obtain ⟨tn, htn⟩ : ∃ n, cs.length = n := ⟨_, rfl⟩
                  obtain ⟨ln, hln⟩ : ∃ n, l.length = n := ⟨_, rfl⟩
                  obtain ⟨nc, hnc⟩ : ∃ n, css.length = n := ⟨_, rfl⟩
                  have HPn := Lib.hid hpn
                  have HLn := Lib.hid hln
                  have HNc := Lib.hid hnc
                  rw [hrn] at x3 hmr hRq hrl HHl
                  rw [hpn] at x4 hmx hmf hpl HHl HL2
                  rw [htn] at k3 k4 x3 x4 hlen
                  rw [hln] at hmr hpl hl5 HGm
                  rw [hnc] at hmv hrl HGm
                  subst hmv
                  have hj9 := Hfn.out
                  have HW2 := Lib.hid (HWj.out.under Hgb.out (o := pn) hqb (.int .i64 ((cn : Int) + 1)))
                  have hB2 : Below h4 wr (wr.setCell ⟨bq, pn, none⟩ (.int .i64 ((cn : Int) + 1))) := (Below.refl _ _).setCell (p := ⟨bq, pn, none⟩) hq4 _
                  have HN2 := Lib.hid (HNj.out.next hB2 Hbs.out.2 (by have := Hbs.out.2; omega) (fun _ _ _ _ _ => trivial))
                  have hw1 : IntKind.i64.wrap (tn : Int) = (tn : Int) := by rw [IntKind.wrap_i64]; omega
                  have hw2 : IntKind.i64.wrap ((cn : Int) + 1) = (cn : Int) + 1 := by rw [IntKind.wrap_i64]; omega
                  have hi0 : (0 : Int) ≤ (tn : Int) := Int.natCast_nonneg _
                  have hi1 : (tn : Int) < ((tn + 1 : Nat) : Int) := by omega
                  have hr0 : (0 : Int) ≤ (rn : Int) := Int.natCast_nonneg _
                  have hr1 : (rn : Int) < (nc : Int) := by omega
                  have hp0 : (0 : Int) ≤ (pn : Int) := Int.natCast_nonneg _
                  have hp1 : (pn : Int) < (ln : Int) := by omega
                  have hlt' : (j : Int) < (fn : Int) := by omega
                  have HJ9 : Hid (j < 1000000) := Lib.hid (by omega)
                  have HJf := Lib.hid (And.intro hlt hj)
                  clear hB2 hl hpl hml hgm hgl hFl hFx hq4 hqb hcn hcnt ho e1 e2 hst hpos hcs hm hrn hpn htn hln hnc hRq hlt hj HLj HWj HNj HX HDs
                  go_upto_region 22 with fail
                  clear d9 d10 k3 k4 x3 x4 hmr hmx hmf hw1 hw2 hi0 hi1 hlt'
                  generalize wr.setCell ⟨bq, pn, none⟩ (.int .i64 ((cn : Int) + 1)) = w2 at *
                  obtain ⟨bc, cc, u, hcv, hcu, hma⟩ := HL2.out.code HHl.out.1
                  obtain ⟨Au, cu, hu, _, _, hu3⟩ := hma
                  have hlp : 0 < l.length := by rw [HLn.out]; omega
                  obtain ⟨bu, ou, hAu, _, hmac⟩ := hu3 hlp
                  obtain ⟨a0, a1, a2, a3, a4⟩ := hmac _ _ HHl.out.2
                  rw [HLn.out] at hu
                  subst hAu
                  subst hu
                  rw [HNc.out] at hcv
                  have HStep := Lib.hid (Step_any m ln nc w2 g bs css inp (.slice Ai il ci) sj c cs HW2.out HCs.out HGj.out HGm.out (by rw [HPn.out]; omega) (by rw [HSj.out]; exact HJ9.out) ((HI2.out w2 HN2.out.below).more (by have := Hbs.out; omega)) Hgb.out)
                  clear hu3 hmac hlp hl5
                  subst hcv
                  go_wp2_with fail
                  refine HStep.out.mono ?_
                  rintro e w3 ⟨rfl, hW3, hB3⟩
                  have HW3 : Hid (WIs w3 g bs inp (runS css s0 (j + 1))) := Lib.hid (by rw [HE1.out]; exact hW3)
                  have HL3 := Lib.hid (HL2.out.under hB3)
                  have HN3 := Lib.hid (HN2.out.next hB3 (by have := Hbs.out; omega) (by have := Hbs.out; omega) (fun _ _ _ _ _ => trivial))
                  clear hW3 hB3 HStep a0 a1 a2 a3 a4 hcu HW2 HL2 HN2 hr0 hr1 hp0 hp1
                  go_wp2_with fail
                  go_roundg (fn - (j + 1))
                  case measure => have := HJf.out; omega
                  case rel => exact ⟨j + 1, rj, Rj, by have := HJf.out; omega, HW3, HS3, HN3, HL3⟩
                · obtain rfl : j = fn := by omega
                  go_upto_region 25 with fail
                  have HX2 := Lib.hid (HX.out.st' 1)
                  have hB2 : Below bs wr (wr.setCell ⟨g, 6, none⟩ (.int .i64 1)) := (Below.refl _ _).setCell (p := ⟨g, 6, none⟩) Hgb.out _
                  have HN2 := Lib.hid (HNj.out.next hB2 (by have := Hbs.out; omega) (by have := Hbs.out; omega) (fun _ _ _ _ _ => trivial))
                  have HL2 := Lib.hid (HLj.out.under hB2)
                  have Ho5 := Lib.hid ho5
                  clear hB2 d6 d7 d8 d9 d10 df6 ho5
                  generalize wr.setCell ⟨g, 6, none⟩ (.int .i64 1) = w2 at *
                  have d9 : w2.cell? ⟨g, 9, none⟩ = some (.int .i64 (j : Int)) := by rw [← HSj.out]; exact HX2.out.blk.cell 9
                  have d6 : w2.cell? ⟨g, 6, none⟩ = some (.int .i64 1) := HX2.out.blk.cell 6
                  have d7 : w2.cell? ⟨g, 7, none⟩ = some (.int .i64 sj.value) := HX2.out.blk.cell 7
                  have d8 : w2.cell? ⟨g, 8, none⟩ = some (.slice Ao sj.out.length co) := (HX2.out.blk.cell 8).trans (by rw [← Ho5.out]; rfl)
                  have q0 := HN2.out.res.cell 0
                  have q1 := HN2.out.res.cell 1
                  have q2 := HN2.out.res.cell 2
                  have q3 := HN2.out.res.cell 3
                  have qf0 := HN2.out.res.frozen 0
                  have qf1 := HN2.out.res.frozen 1
                  have qf2 := HN2.out.res.frozen 2
                  have qf3 := HN2.out.res.frozen 3
                  have t0 := HN2.out.flt.cell 0
                  have t1 := HN2.out.flt.cell 1
                  have tf0 := HN2.out.flt.frozen 0
                  have tf1 := HN2.out.flt.frozen 1
                  go_region
                  all_goals
                    go_wp2_with fail
                    have hS := HSj.out
                    subst hS
                    have hT : sj.told = { sj with state := 1 } := by unfold Mch.told; rw [HOb.out]; rfl
                    have hend := HN2.out.end_ (.int .i64 1) (.int .i64 sj.value) (.slice Ao sj.out.length co) (.int .i64 (sj.steps : Int)) (.int .i64 0) (.int .i64 0)
                    refine end_tmp_cells rfl rfl rfl hend.1.drew hend.2.1.drew Tryd.underlying28 rfl Tryd.underlying30 rfl (by kernel_rfl) (by kernel_rfl) rfl ?_
                    rw [← HPE.out, HEnd.out.1, HEnd.out.2.1, HEnd.out.2.2.1, HEnd.out.2.2.2, Hsj.out, hT]
                    have hrow := HX2.out.rows 5 (by omega)
                    rw [Ho5.out] at hrow
                    exact ref_done (s := { sj with state := 1 }) HN2.out HL2.out (by have := Hbs.out; omega) Hbs.out.1 hrow rfl
              · go_upto_region 25 with fail
                have Ho5 := Lib.hid ho5
                have q0 := HNj.out.res.cell 0
                have q1 := HNj.out.res.cell 1
                have q2 := HNj.out.res.cell 2
                have q3 := HNj.out.res.cell 3
                have qf0 := HNj.out.res.frozen 0
                have qf1 := HNj.out.res.frozen 1
                have qf2 := HNj.out.res.frozen 2
                have qf3 := HNj.out.res.frozen 3
                have t0 := HNj.out.flt.cell 0
                have t1 := HNj.out.flt.cell 1
                have tf0 := HNj.out.flt.frozen 0
                have tf1 := HNj.out.flt.frozen 1
                go_region
                all_goals
                  go_wp2_with fail
                  have hS := HSj.out
                  subst hS
                  have ho : (runS css s0 sj.steps).over = true := by rw [Hsj.out]; exact HOb.out
                  obtain ⟨e1, e2⟩ := run_over ho fn (by omega)
                  have hend := HNj.out.end_ (.int .i64 sj.state) (.int .i64 sj.value) (.slice Ao sj.out.length co) (.int .i64 (sj.steps : Int)) (.int .i64 0) (.int .i64 0)
                  refine end_tmp_cells rfl rfl rfl hend.1.drew hend.2.1.drew Tryd.underlying28 rfl Tryd.underlying30 rfl (by kernel_rfl) (by kernel_rfl) rfl ?_
                  rw [← HPE.out, HEnd.out.1, HEnd.out.2.1, HEnd.out.2.2.1, HEnd.out.2.2.2, e1, e2, Hsj.out, show sj.told = sj by unfold Mch.told; rw [HOb.out]; rfl]
                  have hrow := HX.out.rows 5 (by omega)
                  rw [Ho5.out] at hrow
                  exact ref_done HNj.out HLj.out (by have := Hbs.out; omega) Hbs.out.1 hrow rfl
  · have hfb : (m1 == 0) = false := by simpa using hm1
    have Hf := Lib.hid (HFm.out hm1)
    go_wp2_with fail
    go_region
    all_goals
      go_wp2_with fail
      have hend := HN4.out.end_ (.int .i64 0) (.int .i64 0) (.slice none 0 0) (.int .i64 0) (.int .i64 m1) (.int .i64 m2)
      refine end_tmp_cells rfl rfl rfl hend.1.drew hend.2.1.drew Tryd.underlying28 rfl Tryd.underlying30 rfl (by kernel_rfl) (by kernel_rfl) rfl ?_
      exact HBad.out _ (m1, m2) Hf.out (hm1) (below_drew1 (HN4.out.below.trans (hend.2.2.mono (by omega))))
end Go.Proofs.YtkiaffaieniebaaDoor
namespace Go.Proofs.YtkiaffaieniebaaDoor
open Go.RowKit

set_option maxRecDepth 100000 in
set_option maxHeartbeats 1000000 in
theorem RRun_any (gv rv iv : Value) (gs : List Glob) (rs : List Rout) (inp : List Int) (fuel : Int) (w : World) (hg : GlobsAt w w.heap.size gv gs) (hr : RoutsAt w w.heap.size rv rs) (hin : IntsAt w w.heap.size iv inp)
    (hgo : GOk gs) (hro : ROk rs) : Calls Tryd.prog 16 #[.agg #[gv, rv], iv, .int .i64 fuel] w (OutPost w (runO gs rs inp fuel) (runF gs rs inp fuel)) := by
  have hA : Below w.heap.size w (((w.alloc (.cells #[gv, rv] 36)).alloc (.cells #[.int .i64 0, .int .i64 0, .slice none 0 0, .int .i64 0] 28)).alloc (.cells #[.int .i64 0, .int .i64 0] 30)) := (((Below.refl _ _).alloc (Nat.le_refl _) _).alloc (by simp) _).alloc (by simp; omega) _
  have HN : Hid (RunNow w w.heap.size w.heap.size gv rv (fun _ _ => True) [] (((w.alloc (.cells #[gv, rv] 36)).alloc (.cells #[.int .i64 0, .int .i64 0, .slice none 0 0, .int .i64 0] 28)).alloc (.cells #[.int .i64 0, .int .i64 0] 30))) := Lib.hid
    ⟨((Blk.new w _ _).alloc _).alloc _, Blk.alloc (by have := Blk.new (w.alloc (.cells #[gv, rv] 36)) 28 #[.int .i64 0, .int .i64 0, .slice none 0 0, .int .i64 0]; simpa using this) _,
      by have := Blk.new ((w.alloc (.cells #[gv, rv] 36)).alloc (.cells #[.int .i64 0, .int .i64 0, .slice none 0 0, .int .i64 0] 28)) 30 #[.int .i64 0, .int .i64 0]; simpa using this, hA, trivial, fun g t cs hg hc => hc.below hA hg⟩
  have HZ : Hid (w.heap.size + 3 ≤ (((w.alloc (.cells #[gv, rv] 36)).alloc (.cells #[.int .i64 0, .int .i64 0, .slice none 0 0, .int .i64 0] 28)).alloc (.cells #[.int .i64 0, .int .i64 0] 30)).heap.size) := Lib.hid (by simp)
  have HCall := Lib.hid (RMet_any gv rv iv gs rs inp fuel (((w.alloc (.cells #[gv, rv] 36)).alloc (.cells #[.int .i64 0, .int .i64 0, .slice none 0 0, .int .i64 0] 28)).alloc (.cells #[.int .i64 0, .int .i64 0] 30))
    ((hg.below hA (Nat.le_refl _)).more hA.size) ((hr.below hA (Nat.le_refl _)).more hA.size) ((hin.below hA (Nat.le_refl _)).more hA.size) hgo hro)
  clear hA hg hr hin hgo hro
  obtain ⟨lR, hlR⟩ : ∃ f, metRows (runL gs rs inp fuel) (runT gs rs inp fuel) = f := ⟨_, rfl⟩
  obtain ⟨fR, hfR⟩ : ∃ f, runF gs rs inp fuel = f := ⟨_, rfl⟩
  obtain ⟨sR, hsR⟩ : ∃ f, runO gs rs inp fuel = f := ⟨_, rfl⟩
  rw [hlR, hfR, hsR] at HCall
  rw [hfR, hsR]
  clear hlR hfR hsR
  obtain ⟨f1, f2⟩ := fR
  obtain ⟨PE, hPE⟩ : ∃ PE, OutPost w sR (f1, f2) = PE := ⟨_, rfl⟩
  rw [hPE]
  have HPE := Lib.hid hPE
  clear hPE
  go_enter Tryd.func16, Tryd.ntmps16
  go_wp2_with fail
  generalize ((w.alloc (.cells #[gv, rv] 36)).alloc (.cells #[.int .i64 0, .int .i64 0, .slice none 0 0, .int .i64 0] 28)).alloc (.cells #[.int .i64 0, .int .i64 0] 30) = W at *
  refine HCall.out.mono ?_
  rintro e w1 ⟨v, ov, rfl, _, hov, hb1⟩
  obtain ⟨Ao, co, rfl⟩ := row_form hov
  obtain ⟨n, hn⟩ : ∃ n, sR.out.length = n := ⟨_, rfl⟩
  have Hn := Lib.hid hn
  rw [hn] at hov
  have HO := Lib.hid hov
  have hzW := HZ.out
  have hA2 : Below w1.heap.size w1 ((w1.alloc (.cells #[.int .i64 sR.state, .int .i64 sR.value, .slice Ao n co, .int .i64 (sR.steps : Int)] 28)).alloc (.cells #[.int .i64 f1, .int .i64 f2] 30)) := ((Below.refl _ _).alloc (Nat.le_refl _) _).alloc (by simp) _
  have hz1 : W.heap.size ≤ w1.heap.size := hb1.size
  have HN2 : Hid (RunNow w w.heap.size w.heap.size gv rv (fun _ _ => True) [] ((w1.alloc (.cells #[.int .i64 sR.state, .int .i64 sR.value, .slice Ao n co, .int .i64 (sR.steps : Int)] 28)).alloc (.cells #[.int .i64 f1, .int .i64 f2] 30))) := Lib.hid
    ((HN.out.next hb1 hzW (by omega) (fun _ _ _ _ _ => trivial)).next hA2 (by omega) (by omega) (fun _ _ _ _ _ => trivial))
  have HK9 := Lib.hid ((Blk.new w1 28 #[.int .i64 sR.state, .int .i64 sR.value, .slice Ao n co, .int .i64 (sR.steps : Int)]).alloc (.cells #[.int .i64 f1, .int .i64 f2] 30))
  have HK10 : Hid (Blk ((w1.alloc (.cells #[.int .i64 sR.state, .int .i64 sR.value, .slice Ao n co, .int .i64 (sR.steps : Int)] 28)).alloc (.cells #[.int .i64 f1, .int .i64 f2] 30)) (w1.heap.size + 1) 30 #[.int .i64 f1, .int .i64 f2]) := Lib.hid (by
    have := Blk.new (w1.alloc (.cells #[.int .i64 sR.state, .int .i64 sR.value, .slice Ao n co, .int .i64 (sR.steps : Int)] 28)) 30 #[.int .i64 f1, .int .i64 f2]
    simpa using this)
  have HO2 := Lib.hid (row_lt HO.out hA2)
  clear hov hb1 hA2 hn HN HCall
  go_upto_region 2 with fail
  rw [Hn.out]
  generalize (w1.alloc (.cells #[.int .i64 sR.state, .int .i64 sR.value, .slice Ao n co, .int .i64 (sR.steps : Int)] 28)).alloc (.cells #[.int .i64 f1, .int .i64 f2] 30) = W2 at *
  generalize w1.heap.size = g1 at *
  have a0 := HK9.out.cell 0
  have a1 := HK9.out.cell 1
  have a2 := HK9.out.cell 2
  have a3 := HK9.out.cell 3
  have b0 := HK10.out.cell 0
  have b1 := HK10.out.cell 1
  have r0 := HN2.out.res.cell 0
  have r1 := HN2.out.res.cell 1
  have r2 := HN2.out.res.cell 2
  have r3 := HN2.out.res.cell 3
  have k0 := HN2.out.flt.cell 0
  have k1 := HN2.out.flt.cell 1
  have rf0 := HN2.out.res.frozen 0
  have rf1 := HN2.out.res.frozen 1
  have rf2 := HN2.out.res.frozen 2
  have rf3 := HN2.out.res.frozen 3
  have kf0 := HN2.out.flt.frozen 0
  have kf1 := HN2.out.flt.frozen 1
  go_region
  all_goals
    go_wp2_with fail
    have hend := HN2.out.end_ (.int .i64 sR.state) (.int .i64 sR.value) (.slice Ao n co) (.int .i64 (sR.steps : Int)) (.int .i64 f1) (.int .i64 f2)
    have hrow := HN2.out.row HO2.out (by decide) (by decide) (.int .i64 sR.state) (.int .i64 sR.value) (.slice Ao n co) (.int .i64 (sR.steps : Int)) (.int .i64 f1) (.int .i64 f2)
    refine end_cells rfl rfl rfl hend.1.drew hend.2.1.drew Tryd.underlying28 rfl Tryd.underlying30 rfl (by kernel_rfl) (by kernel_rfl) rfl ?_
    rw [← HPE.out]
    generalize (((((W2.setCell ⟨w.heap.size + 1, 0, none⟩ (.int .i64 sR.state)).setCell ⟨w.heap.size + 1, 1, none⟩ (.int .i64 sR.value)).setCell ⟨w.heap.size + 1, 2, none⟩ (.slice Ao n co)).setCell ⟨w.heap.size + 1, 3, none⟩ (.int .i64 (sR.steps : Int))).setCell ⟨w.heap.size + 1 + 1, 0, none⟩ (.int .i64 f1)).setCell ⟨w.heap.size + 1 + 1, 1, none⟩ (.int .i64 f2) = W6 at *
    exact ⟨_, rfl, row_le (World.ownsRow.drew (Hn.out ▸ hrow)) (Nat.le_trans (Nat.le_add_right _ 3) HZ.out), below_drew1 (HN2.out.below.trans (hend.2.2.mono (by omega)))⟩
end Go.Proofs.YtkiaffaieniebaaDoor
namespace Go.Proofs.YtkiaffaieniebaaDoor
open Go.RowKit

set_option maxRecDepth 100000 in
set_option maxHeartbeats 1000000 in
theorem MachineRunSays_any (gv rv iv : Value) (gs : List Glob) (rs : List Rout) (inp : List Int) (fuel : Int) (w : World) (hg : GlobsAt w w.heap.size gv gs) (hr : RoutsAt w w.heap.size rv rs) (hin : IntsAt w w.heap.size iv inp)
    (hgo : GOk gs) (hro : ROk rs) (ht : Tab w) : Calls Tryd.prog 5 #[.agg #[gv, rv], iv, .int .i64 fuel] w fun e w' => e = .returned (.bool true) ∧ Below w.heap.size w w' := by
  have HRun : Hid (∀ W, Below w.heap.size w W → Calls Tryd.prog 14 #[.agg #[gv, rv], iv, .int .i64 fuel] W (OutPost W (runO gs rs inp fuel) (runF gs rs inp fuel))) := Lib.hid fun W hb =>
    Run_any gv rv iv gs rs inp fuel W ((hg.below hb (Nat.le_refl _)).more hb.size) ((hr.below hb (Nat.le_refl _)).more hb.size) ((hin.below hb (Nat.le_refl _)).more hb.size) hgo hro (ht.own hb)
  have HRef : Hid (∀ W, Below w.heap.size w W → Calls Tryd.prog 16 #[.agg #[gv, rv], iv, .int .i64 fuel] W (OutPost W (runO gs rs inp fuel) (runF gs rs inp fuel))) := Lib.hid fun W hb =>
    RRun_any gv rv iv gs rs inp fuel W ((hg.below hb (Nat.le_refl _)).more hb.size) ((hr.below hb (Nat.le_refl _)).more hb.size) ((hin.below hb (Nat.le_refl _)).more hb.size) hgo hro
  obtain ⟨Ai, ci, hiv, _⟩ := hin
  generalize inp.length = il at *
  subst hiv
  obtain ⟨Ag, cg, hgv, _⟩ := hg
  obtain ⟨Ar, cr, hrv, _⟩ := hr
  generalize gs.length = gl at *
  generalize rs.length = rl at *
  subst hgv
  subst hrv
  clear hgo hro ht
  generalize runO gs rs inp fuel = X at *
  obtain ⟨f1, f2, hf⟩ : ∃ f1 f2, runF gs rs inp fuel = (f1, f2) := ⟨_, _, rfl⟩
  rw [hf] at HRun HRef
  clear hf
  have HB : Hid (Below w.heap.size w (w.alloc (.cells #[.slice Ag gl cg, .slice Ar rl cr] 36))) := Lib.hid ((Below.refl _ _).alloc (Nat.le_refl _) _)
  have HK := Lib.hid (Blk.new w 36 #[.slice Ag gl cg, .slice Ar rl cr])
  by_cases hfu : 3000 < fuel ∧ fuel ≤ 900000
  · obtain ⟨h1, h2⟩ := hfu
    go_enter Tryd.func5, Tryd.ntmps5
    go_wp2_with fail
    go_ret
    exact ⟨rfl, HB.out⟩
  · have d0 := HK.out.cell 0
    have d1 := HK.out.cell 1
    have hsel : (decide (3000 < fuel) = false) ∨ (decide (3000 < fuel) = true ∧ decide (fuel ≤ 900000) = false) := by
      by_cases h : 3000 < fuel
      · exact .inr ⟨by simpa using h, by simp; omega⟩
      · exact .inl (by simpa using h)
    go_enter Tryd.func5, Tryd.ntmps5
    go_upto_region 1 with fail
    go_cut [11, 12, 13, 14, 15, 16] (fun t11 t12 t13 t14 t15 t16 wx => t16 = .bool false ∧ wx = w.alloc (.cells #[.slice Ag gl cg, .slice Ar rl cr] 36))
    case first =>
      rcases hsel with h | ⟨h, h'⟩
      · have h2 : ¬ (3000 < fuel) := by simpa using h
        go_wp2_with fail
        go_meet
        exact ⟨rfl, rfl⟩
      · have h2 : 3000 < fuel := by simpa using h
        have h3 : ¬ (fuel ≤ 900000) := by simpa using h'
        go_wp2_with fail
        go_meet
        exact ⟨rfl, rfl⟩
    case rest =>
      obtain ⟨rfl, rfl⟩ := hcut
      generalize w.alloc (.cells #[.slice Ag gl cg, .slice Ar rl cr] 36) = W at *
      have hz0 : w.heap.size ≤ W.heap.size := HB.out.size
      go_wp2_with fail
      refine (HRun.out W HB.out).mono ?_
      rintro e w1 ⟨ov, rfl, hov, hb1⟩
      obtain ⟨Ao, co, rfl⟩ := row_form hov
      obtain ⟨n, hn⟩ : ∃ n, X.out.length = n := ⟨_, rfl⟩
      have Hn := Lib.hid hn
      rw [hn] at hov ⊢
      have hA2 : Below w1.heap.size w1 ((w1.alloc (.cells #[.int .i64 X.state, .int .i64 X.value, .slice Ao n co, .int .i64 (X.steps : Int)] 28)).alloc (.cells #[.int .i64 f1, .int .i64 f2] 30)) := ((Below.refl _ _).alloc (Nat.le_refl _) _).alloc (by simp) _
      have hz1 : W.heap.size ≤ w1.heap.size := hb1.size
      have HB2 := Lib.hid (HB.out.trans ((hb1.trans (hA2.mono hz1)).mono hz0))
      have HK2 := Lib.hid ((HK.out.below hb1 HK.out.lt).below hA2 (Nat.lt_of_lt_of_le HK.out.lt hz1))
      have HO2 := Lib.hid (row_lt hov hA2)
      have HX2 := Lib.hid ((Blk.new w1 28 #[.int .i64 X.state, .int .i64 X.value, .slice Ao n co, .int .i64 (X.steps : Int)]).alloc (.cells #[.int .i64 f1, .int .i64 f2] 30))
      have HF2 : Hid (Blk ((w1.alloc (.cells #[.int .i64 X.state, .int .i64 X.value, .slice Ao n co, .int .i64 (X.steps : Int)] 28)).alloc (.cells #[.int .i64 f1, .int .i64 f2] 30)) (w1.heap.size + 1) 30 #[.int .i64 f1, .int .i64 f2]) := Lib.hid (by
        have := Blk.new (w1.alloc (.cells #[.int .i64 X.state, .int .i64 X.value, .slice Ao n co, .int .i64 (X.steps : Int)] 28)) 30 #[.int .i64 f1, .int .i64 f2]
        simpa using this)
      clear hov hb1 hA2 hn d0 d1 HRun HB HK hz1 hz0
      go_upto_region 4 with fail
      generalize (w1.alloc (.cells #[.int .i64 X.state, .int .i64 X.value, .slice Ao n co, .int .i64 (X.steps : Int)] 28)).alloc (.cells #[.int .i64 f1, .int .i64 f2] 30) = W2 at *
      generalize w1.heap.size = g1 at *
      have d0 := HK2.out.cell 0
      have d1 := HK2.out.cell 1
      have hz0 : w.heap.size ≤ W2.heap.size := HB2.out.size
      go_wp2_with fail
      refine (HRef.out W2 HB2.out).mono ?_
      rintro e w3 ⟨ov3, rfl, hov, hb1⟩
      obtain ⟨A3, c3, rfl⟩ := row_form hov
      rw [Hn.out] at hov ⊢
      have hA2 : Below w3.heap.size w3 ((w3.alloc (.cells #[.int .i64 X.state, .int .i64 X.value, .slice A3 n c3, .int .i64 (X.steps : Int)] 28)).alloc (.cells #[.int .i64 f1, .int .i64 f2] 30)) := ((Below.refl _ _).alloc (Nat.le_refl _) _).alloc (by simp) _
      have hz1 : W2.heap.size ≤ w3.heap.size := hb1.size
      have HW4 := Lib.hid (hb1.trans (hA2.mono hz1))
      have HO4 := Lib.hid (row_lt hov hA2)
      have HX4 := Lib.hid ((Blk.new w3 28 #[.int .i64 X.state, .int .i64 X.value, .slice A3 n c3, .int .i64 (X.steps : Int)]).alloc (.cells #[.int .i64 f1, .int .i64 f2] 30))
      have HF4 : Hid (Blk ((w3.alloc (.cells #[.int .i64 X.state, .int .i64 X.value, .slice A3 n c3, .int .i64 (X.steps : Int)] 28)).alloc (.cells #[.int .i64 f1, .int .i64 f2] 30)) (w3.heap.size + 1) 30 #[.int .i64 f1, .int .i64 f2]) := Lib.hid (by
        have := Blk.new (w3.alloc (.cells #[.int .i64 X.state, .int .i64 X.value, .slice A3 n c3, .int .i64 (X.steps : Int)] 28)) 30 #[.int .i64 f1, .int .i64 f2]
        simpa using this)
      clear hov hb1 hA2 d0 d1 HRef hz1
      go_upto_region 5 with fail
      generalize (w3.alloc (.cells #[.int .i64 X.state, .int .i64 X.value, .slice A3 n c3, .int .i64 (X.steps : Int)] 28)).alloc (.cells #[.int .i64 f1, .int .i64 f2] 30) = W4 at *
      generalize w3.heap.size = g3 at *
      have HB4 := Lib.hid (HB2.out.trans (HW4.out.mono hz0))
      have HX2' := Lib.hid (HX2.out.below HW4.out HX2.out.lt)
      have HF2' := Lib.hid (HF2.out.below HW4.out HF2.out.lt)
      have HIx := Lib.hid (row_ints (row_lt HO2.out HW4.out) Hn.out.symm)
      have HIy := Lib.hid (row_ints HO4.out Hn.out.symm)
      have a0 := HX2'.out.cell 0
      have a1 := HX2'.out.cell 1
      have a2 := HX2'.out.cell 2
      have a3 := HX2'.out.cell 3
      have c0 := HX4.out.cell 0
      have c1 := HX4.out.cell 1
      have c2 := HX4.out.cell 2
      have c3 := HX4.out.cell 3
      go_wp2_with fail
      refine (Outcomes_any X X _ _ W4 HIx.out HIy.out).mono ?_
      rintro e w5 ⟨rfl, hb5⟩
      rw [show sameB X X = true by unfold sameB; simp]
      have HB5 := Lib.hid (HB4.out.trans (hb5.mono HB4.out.size))
      have hk1 := HF2'.out.below hb5 HF2'.out.lt
      have hk2 := HF4.out.below hb5 HF4.out.lt
      have e0 := hk1.cell 0
      have e1 := hk1.cell 1
      have e2 := hk2.cell 0
      have e3 := hk2.cell 1
      clear hb5 hk1 hk2 a0 a1 a2 a3 c0 c1 c2 c3
      go_wp2_with fail
      go_ret
      exact ⟨ret_bool (by simp), HB5.out⟩
end Go.Proofs.YtkiaffaieniebaaDoor
namespace Go.Proofs.YtkiaffaieniebaaDoor
open Go.RowKit

set_option maxRecDepth 100000 in
set_option maxHeartbeats 1000000 in
theorem MachineMetSays_any (gv rv iv : Value) (gs : List Glob) (rs : List Rout) (inp : List Int) (fuel : Int) (w : World) (hg : GlobsAt w w.heap.size gv gs) (hr : RoutsAt w w.heap.size rv rs) (hin : IntsAt w w.heap.size iv inp)
    (hgo : GOk gs) (hro : ROk rs) (ht : Tab w) : Calls Tryd.prog 6 #[.agg #[gv, rv], iv, .int .i64 fuel] w fun e w' => e = .returned (.bool true) ∧ Below w.heap.size w w' := by
  have HRun : Hid (∀ W, Below w.heap.size w W → Calls Tryd.prog 18 #[.agg #[gv, rv], iv, .int .i64 fuel] W (MetPost W (metRows (runL gs rs inp fuel) (runT gs rs inp fuel)) (runO gs rs inp fuel) (runF gs rs inp fuel))) := Lib.hid fun W hb =>
    Met_any gv rv iv gs rs inp fuel W ((hg.below hb (Nat.le_refl _)).more hb.size) ((hr.below hb (Nat.le_refl _)).more hb.size) ((hin.below hb (Nat.le_refl _)).more hb.size) hgo hro (ht.own hb)
  have HRef : Hid (∀ W, Below w.heap.size w W → Calls Tryd.prog 19 #[.agg #[gv, rv], iv, .int .i64 fuel] W (MetPost W (metRows (runL gs rs inp fuel) (runT gs rs inp fuel)) (runO gs rs inp fuel) (runF gs rs inp fuel))) := Lib.hid fun W hb =>
    RMet_any gv rv iv gs rs inp fuel W ((hg.below hb (Nat.le_refl _)).more hb.size) ((hr.below hb (Nat.le_refl _)).more hb.size) ((hin.below hb (Nat.le_refl _)).more hb.size) hgo hro
  obtain ⟨Ai, ci, hiv, _⟩ := hin
  generalize inp.length = il at *
  subst hiv
  obtain ⟨Ag, cg, hgv, _⟩ := hg
  obtain ⟨Ar, cr, hrv, _⟩ := hr
  generalize gs.length = gl at *
  generalize rs.length = rl at *
  subst hgv
  subst hrv
  clear hgo hro ht
  generalize runO gs rs inp fuel = X at *
  generalize metRows (runL gs rs inp fuel) (runT gs rs inp fuel) = xss at *
  obtain ⟨f1, f2, hf⟩ : ∃ f1 f2, runF gs rs inp fuel = (f1, f2) := ⟨_, _, rfl⟩
  rw [hf] at HRun HRef
  clear hf
  have HB : Hid (Below w.heap.size w (w.alloc (.cells #[.slice Ag gl cg, .slice Ar rl cr] 36))) := Lib.hid ((Below.refl _ _).alloc (Nat.le_refl _) _)
  have HK := Lib.hid (Blk.new w 36 #[.slice Ag gl cg, .slice Ar rl cr])
  by_cases hfu : 3000 < fuel ∧ fuel ≤ 900000
  · obtain ⟨h1, h2⟩ := hfu
    go_enter Tryd.func6, Tryd.ntmps6
    go_wp2_with fail
    go_ret
    exact ⟨rfl, HB.out⟩
  · have d0 := HK.out.cell 0
    have d1 := HK.out.cell 1
    have hsel : (decide (3000 < fuel) = false) ∨ (decide (3000 < fuel) = true ∧ decide (fuel ≤ 900000) = false) := by
      by_cases h : 3000 < fuel
      · exact .inr ⟨by simpa using h, by simp; omega⟩
      · exact .inl (by simpa using h)
    go_enter Tryd.func6, Tryd.ntmps6
    go_upto_region 1 with fail
    go_cut [13, 14, 15, 16, 17, 18] (fun t13 t14 t15 t16 t17 t18 wx => t18 = .bool false ∧ wx = w.alloc (.cells #[.slice Ag gl cg, .slice Ar rl cr] 36))
    case first =>
      rcases hsel with h | ⟨h, h'⟩
      · have h2 : ¬ (3000 < fuel) := by simpa using h
        go_wp2_with fail
        go_meet
        exact ⟨rfl, rfl⟩
      · have h2 : 3000 < fuel := by simpa using h
        have h3 : ¬ (fuel ≤ 900000) := by simpa using h'
        go_wp2_with fail
        go_meet
        exact ⟨rfl, rfl⟩
    case rest =>
      obtain ⟨rfl, rfl⟩ := hcut
      generalize w.alloc (.cells #[.slice Ag gl cg, .slice Ar rl cr] 36) = W at *
      have hz0 : w.heap.size ≤ W.heap.size := HB.out.size
      go_wp2_with fail
      refine (HRun.out W HB.out).mono ?_
      rintro e w1 ⟨v1, ov, rfl, hro1, hov, hb1⟩
      obtain ⟨Ao, co, rfl⟩ := row_form hov
      obtain ⟨n, hn⟩ : ∃ n, X.out.length = n := ⟨_, rfl⟩
      have Hn := Lib.hid hn
      rw [hn] at hov ⊢
      have hA2 : Below w1.heap.size w1 ((w1.alloc (.cells #[.int .i64 X.state, .int .i64 X.value, .slice Ao n co, .int .i64 (X.steps : Int)] 28)).alloc (.cells #[.int .i64 f1, .int .i64 f2] 30)) := ((Below.refl _ _).alloc (Nat.le_refl _) _).alloc (by simp) _
      have hz1 : W.heap.size ≤ w1.heap.size := hb1.size
      have HB2 := Lib.hid (HB.out.trans ((hb1.trans (hA2.mono hz1)).mono hz0))
      have HK2 := Lib.hid ((HK.out.below hb1 HK.out.lt).below hA2 (Nat.lt_of_lt_of_le HK.out.lt hz1))
      have HO2 := Lib.hid (row_lt hov hA2)
      have HR2 := Lib.hid (hro1.below hA2 rfl)
      have HX2 := Lib.hid ((Blk.new w1 28 #[.int .i64 X.state, .int .i64 X.value, .slice Ao n co, .int .i64 (X.steps : Int)]).alloc (.cells #[.int .i64 f1, .int .i64 f2] 30))
      have HF2 : Hid (Blk ((w1.alloc (.cells #[.int .i64 X.state, .int .i64 X.value, .slice Ao n co, .int .i64 (X.steps : Int)] 28)).alloc (.cells #[.int .i64 f1, .int .i64 f2] 30)) (w1.heap.size + 1) 30 #[.int .i64 f1, .int .i64 f2]) := Lib.hid (by
        have := Blk.new (w1.alloc (.cells #[.int .i64 X.state, .int .i64 X.value, .slice Ao n co, .int .i64 (X.steps : Int)] 28)) 30 #[.int .i64 f1, .int .i64 f2]
        simpa using this)
      clear hro1 hov hb1 hA2 hn d0 d1 HRun HB HK hz1 hz0
      go_upto_region 4 with fail
      generalize (w1.alloc (.cells #[.int .i64 X.state, .int .i64 X.value, .slice Ao n co, .int .i64 (X.steps : Int)] 28)).alloc (.cells #[.int .i64 f1, .int .i64 f2] 30) = W2 at *
      generalize w1.heap.size = g1 at *
      have d0 := HK2.out.cell 0
      have d1 := HK2.out.cell 1
      have hz0 : w.heap.size ≤ W2.heap.size := HB2.out.size
      go_wp2_with fail
      refine (HRef.out W2 HB2.out).mono ?_
      rintro e w3 ⟨v3, ov3, rfl, hro1, hov, hb1⟩
      obtain ⟨A3, c3, rfl⟩ := row_form hov
      rw [Hn.out] at hov ⊢
      have hA2 : Below w3.heap.size w3 ((w3.alloc (.cells #[.int .i64 X.state, .int .i64 X.value, .slice A3 n c3, .int .i64 (X.steps : Int)] 28)).alloc (.cells #[.int .i64 f1, .int .i64 f2] 30)) := ((Below.refl _ _).alloc (Nat.le_refl _) _).alloc (by simp) _
      have hz1 : W2.heap.size ≤ w3.heap.size := hb1.size
      have HW4 := Lib.hid (hb1.trans (hA2.mono hz1))
      have HO4 := Lib.hid (row_lt hov hA2)
      have HR4 := Lib.hid (hro1.below hA2 rfl)
      have HX4 := Lib.hid ((Blk.new w3 28 #[.int .i64 X.state, .int .i64 X.value, .slice A3 n c3, .int .i64 (X.steps : Int)]).alloc (.cells #[.int .i64 f1, .int .i64 f2] 30))
      have HF4 : Hid (Blk ((w3.alloc (.cells #[.int .i64 X.state, .int .i64 X.value, .slice A3 n c3, .int .i64 (X.steps : Int)] 28)).alloc (.cells #[.int .i64 f1, .int .i64 f2] 30)) (w3.heap.size + 1) 30 #[.int .i64 f1, .int .i64 f2]) := Lib.hid (by
        have := Blk.new (w3.alloc (.cells #[.int .i64 X.state, .int .i64 X.value, .slice A3 n c3, .int .i64 (X.steps : Int)] 28)) 30 #[.int .i64 f1, .int .i64 f2]
        simpa using this)
      clear hro1 hov hb1 hA2 d0 d1 HRef hz1
      go_upto_region 5 with fail
      generalize (w3.alloc (.cells #[.int .i64 X.state, .int .i64 X.value, .slice A3 n c3, .int .i64 (X.steps : Int)] 28)).alloc (.cells #[.int .i64 f1, .int .i64 f2] 30) = W4 at *
      generalize w3.heap.size = g3 at *
      have HB4 := Lib.hid (HB2.out.trans (HW4.out.mono hz0))
      have HX2' := Lib.hid (HX2.out.below HW4.out HX2.out.lt)
      have HF2' := Lib.hid (HF2.out.below HW4.out HF2.out.lt)
      have HIx := Lib.hid (row_ints (row_lt HO2.out HW4.out) Hn.out.symm)
      have HIy := Lib.hid (row_ints HO4.out Hn.out.symm)
      have HRx := Lib.hid (HR2.out.below HW4.out rfl).rows
      have HRy := Lib.hid HR4.out.rows
      go_wp2_with fail
      refine (Rows_any v1 v3 xss xss W4 HRx.out HRy.out).mono ?_
      rintro e w6 ⟨rfl, hb6⟩
      rw [show decide (xss = xss) = true by simp]
      have HB6 := Lib.hid (HB4.out.trans (hb6.mono HB4.out.size))
      have HX6 := Lib.hid (HX2'.out.below hb6 HX2'.out.lt)
      have HY6 := Lib.hid (HX4.out.below hb6 HX4.out.lt)
      have HF6 := Lib.hid (HF2'.out.below hb6 HF2'.out.lt)
      have HG6 := Lib.hid (HF4.out.below hb6 HF4.out.lt)
      have HIx6 := Lib.hid ((HIx.out.below hb6 (Nat.le_refl _)).more hb6.size)
      have HIy6 := Lib.hid ((HIy.out.below hb6 (Nat.le_refl _)).more hb6.size)
      have a0 := HX6.out.cell 0
      have a1 := HX6.out.cell 1
      have a2 := HX6.out.cell 2
      have a3 := HX6.out.cell 3
      have c0 := HY6.out.cell 0
      have c1 := HY6.out.cell 1
      have c2 := HY6.out.cell 2
      have c3 := HY6.out.cell 3
      clear hb6
      go_wp2_with fail
      refine (Outcomes_any X X _ _ w6 HIx6.out HIy6.out).mono ?_
      rintro e w5 ⟨rfl, hb5⟩
      rw [show sameB X X = true by unfold sameB; simp]
      have HB5 := Lib.hid (HB6.out.trans (hb5.mono HB6.out.size))
      have hk1 := HF6.out.below hb5 HF6.out.lt
      have hk2 := HG6.out.below hb5 HG6.out.lt
      have e0 := hk1.cell 0
      have e1 := hk1.cell 1
      have e2 := hk2.cell 0
      have e3 := hk2.cell 1
      clear hb5 hk1 hk2 a0 a1 a2 a3 c0 c1 c2 c3
      go_wp2_with fail
      go_ret
      exact ⟨ret_bool (by simp), HB5.out⟩
end Go.Proofs.YtkiaffaieniebaaDoor
