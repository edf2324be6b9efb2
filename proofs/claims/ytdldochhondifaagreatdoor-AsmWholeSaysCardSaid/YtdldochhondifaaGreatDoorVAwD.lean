/-
  Texts of the claim AsmWholeSays (AwD): what each proves stands at its theorems.
  Conditions: as the theorems say.
-/
import Derived.Test.YtdldochhondifaaGreatDoorVAwC
namespace Go.Proofs.YtdldochhondifaaGreatDoor
open Go.RowKit
attribute [local go_sem] Oper.semAt_some

/-- strings.FieldsFunc(s, blank). -/
theorem FieldsF_any (l : List UInt8) (hl : l.length ≤ 1000000) (w : World) :
    Calls Tryz.prog 83 #[.string (mkS l), .func (.func 55) #[] #[]] w fun e w' => ∃ A, e = .returned (.slice (some ⟨A, 0, none⟩) (wordsP l).length (wordsP l).length) ∧ OwnS w' w.heap.size (.slice (some ⟨A, 0, none⟩) (wordsP l).length (wordsP l).length) (wordsP l) ∧ Below w.heap.size w w' := by
  have hf := fields_bl (mkS l)
  rw [mkS_list] at hf
  have hlen : (Lib.goFieldsP blR (mkS l)).length = (wordsP l).length := by rw [← hf, List.length_map]
  have hmap : (Lib.goFieldsP blR (mkS l)).map Value.string = (wordsP l).map fun x => Value.string (mkS x) := by
    rw [← hf, List.map_map]
    rfl
  refine (Tryz.strings_FieldsFunc 55 #[] blank_enter blR (mkS l) w (by rw [mkS_size]; omega) (blank_pred w)).mono ?_
  rintro e w' ⟨A, rfl, _, ho, hb⟩
  rw [hlen, hmap] at ho
  exact ⟨A, by rw [hlen], ho, hb⟩
/-- What whole.line leaves. -/
def WLPost (w : World) (base wx : Nat) (gv sv : Value) (ds : List SecD) (r : Int × WSt) (e : Ending) (w' : World) : Prop :=
  e = .returned (.int .i64 r.1) ∧ OutS (InWh wx gv sv ds) w w' ∧ (r.1 = 0 → ∃ gv' sv' gl' ds', WhM w' base wx gv' sv' gl' ds' r.2 ∧ ∀ k, InWh wx gv' sv' ds' k → InWh wx gv sv ds k ∨ w.heap.size ≤ k)
theorem WLPost.bad {w w' : World} {base wx : Nat} {gv sv : Value} {ds : List SecD} {r : Int × WSt} (h1 : r.1 = 1) (hb : Below w.heap.size w w') : WLPost w base wx gv sv ds r (.returned (.int .i64 1)) w' :=
  ⟨by rw [h1], outS_of hb, fun h => by rw [h1] at h; cases h⟩
theorem words_ne {s : List UInt8} (h : LineOk s) : ∃ a r, wordsP s = a :: r := by
  obtain ⟨r, hr⟩ := words_head h.1 h.2.1
  exact ⟨_, r, hr⟩
theorem words_len {s : List UInt8} (hs : s.length ≤ 900000) : (wordsP s).length ≤ 900001 ∧ ∀ x ∈ wordsP s, x.length ≤ 900000 := by
  obtain ⟨h1, h2⟩ := wordsU_size s []
  refine ⟨by unfold wordsP; omega, fun x hx => ?_⟩
  have := h2 x hx
  simp at this
  omega
def globRes (x : WSt) (ws : List (List UInt8)) : Int × WSt := match globP ws with
  | none => (1, x)
  | some g => (0, ⟨x.globs ++ [g], x.secs⟩)
theorem globRes_none {x : WSt} {ws : List (List UInt8)} (h : globP ws = none) : globRes x ws = (1, x) := by unfold globRes; rw [h]
theorem globRes_some {x : WSt} {ws : List (List UInt8)} {g : Glob} (h : globP ws = some g) : globRes x ws = (0, ⟨x.globs ++ [g], x.secs⟩) := by unfold globRes; rw [h]
section
variable {base wx : Nat} {gv sv : Value} {gl : List (Glob × Value)} {ds : List SecD} {x : WSt}
set_option maxRecDepth 100000 in
set_option maxHeartbeats 4000000 in
/-- A line that begins with the word for a global. -/
theorem wline_glob (s : List UInt8) (hs : s.length ≤ 900000) (hok : LineOk s) (w : World) (hS : Std w) (hM : WhM w base wx gv sv gl ds x) (hbase : base ≤ w.heap.size) (hx : x.globs.length ≤ 1000000 ∧ x.secs.length ≤ 1000000) (h0 : (wordsP s).getD 0 [] = globW) :
    Calls Tryz.prog 36 #[.pointer (some ⟨wx, 0, none⟩), .string (mkS s)] w (WLPost w base wx gv sv ds (wlineP x s)) := by
  have HF := Lib.hid (FieldsF_any s (by omega) w)
  obtain ⟨ws, hws⟩ : ∃ ws, wordsP s = ws := ⟨_, rfl⟩
  obtain ⟨m, hm⟩ : ∃ m, ws.length = m := ⟨_, rfl⟩
  have hWl := words_len hs
  obtain ⟨wa, wr0, hcons⟩ := words_ne hok
  rw [hws] at HF h0 hWl hcons
  rw [hm] at HF
  have hW0 : ws[0]? = some globW := by rw [hcons] at h0 ⊢; simp at h0 ⊢; exact h0
  have hm0 : 0 < m := by rw [← hm, hcons]; simp
  obtain ⟨sA, sc, hsv⟩ := row_form hM.ptrs
  obtain ⟨gA, gc, hgv⟩ := row_form hM.globs.row
  subst hsv hgv
  obtain ⟨sn, hsn⟩ : ∃ sn, ds.length = sn := ⟨_, rfl⟩
  obtain ⟨gn, hgn⟩ : ∃ gn, gl.length = gn := ⟨_, rfl⟩
  have hsx : sn = x.secs.length := by rw [← hsn, hM.secs.len, List.length_map]
  have hgx : gn = x.globs.length := by rw [← hgn, ← hM.geq, List.length_map]
  rw [hsn, hgn] at hM ⊢
  have HM := Lib.hid hM
  have HS := Lib.hid hS
  have HB := Lib.hid hbase
  have HWs := Lib.hid hws
  have Hm := Lib.hid hm
  have HWl := Lib.hid hWl
  have HW0 := Lib.hid hW0
  have Hsx := Lib.hid hsx
  have Hgx := Lib.hid hgx
  have Hxb := Lib.hid hx
  have Hsn := Lib.hid hsn
  have Hgn := Lib.hid hgn
  have HR : Hid (wlineP x s = if x.secs ≠ [] then ((1 : Int), x) else globRes x ws) := Lib.hid (by unfold wlineP; rw [hws, if_pos h0]; rfl)
  clear hM hS hbase hs hok hWl hcons hws hm hW0 hsx hgx hx hsn hgn h0
  go_enter Tryz.func36, Tryz.ntmps36
  go_wp2_with fail
  refine HF.out.mono ?_
  rintro e W1 ⟨b, rfl, ho, hb⟩
  have HO := Lib.hid ho
  have HB1 := Lib.hid hb
  have HS1 := Lib.hid (HS.out.own hb)
  have HM1 := Lib.hid (HM.out.below hb)
  obtain ⟨b', c', hbe, _, hb1, hbc⟩ := ho.at_ HW0.out
  have hb' : b' = b := by have h1 := (Value.slice.inj hbe).1; injection h1 with h1; injection h1 with h1; exact h1.symm
  rw [hb'] at hbc
  clear hbe hb1 hb'
  have q1 : ((mkS globW).toList == [103, 108, 111, 98, 97, 108]) = true := by rw [mkS_toList]; rfl
  have m1 := HM1.out.blk.cell 1
  have k0 : (0 : Int) < (m : Int) := by omega
  clear ho hb HF
  by_cases h3 : m < 3
  · have h3' : (m : Int) < 3 := by omega
    have HE : Hid ((wlineP x s).1 = 1) := Lib.hid (by
      rw [HR.out]
      split
      · rfl
      · rw [globRes_none (by unfold globP; rw [if_neg (by rw [Hm.out]; omega)])])
    clear h3
    go_wp2_with fail
    go_ret
    exact WLPost.bad HE.out HB1.out
  · have h3' : ¬ (m : Int) < 3 := by omega
    by_cases hs0 : 0 < sn
    · have hs0' : (sn : Int) > 0 := by omega
      have HE : Hid ((wlineP x s).1 = 1) := Lib.hid (by rw [HR.out, if_pos (fun e => by rw [Hsx.out, e] at hs0; simp at hs0)])
      clear hs0 h3
      go_wp2_with fail
      go_ret
      exact WLPost.bad HE.out HB1.out
    · have hs0' : ¬ (sn : Int) > 0 := by omega
      have HR2 : Hid (wlineP x s = globRes x ws) := Lib.hid (by rw [HR.out, if_neg (fun e => e (List.eq_nil_of_length_eq_zero (by rw [← Hsx.out]; omega)))])
      have HG := Lib.hid (global_any ws (.slice (some ⟨b, 0, none⟩) m m) w.heap.size W1 (by rw [← Hm.out]; rw [← Hm.out] at HO; exact HO.out) (by rw [Hm.out]; omega) (by have := HWl.out.1; omega) (fun y hy => by have := HWl.out.2 y hy; omega) HS1.out.errs HS1.out.pow)
      clear hs0 h3 HR
      go_wp2_with fail
      refine HG.out.mono ?_
      rintro e W2 ⟨⟨gnm, gsz, iA, iN, iC, ok, rfl, hok, hg⟩, hb2⟩
      have HB2 := Lib.hid (HB1.out.trans (hb2.mono HB1.out.size))
      have HM2 := Lib.hid (HM1.out.below hb2)
      have Hok := Lib.hid hok
      have Hg := Lib.hid hg
      have HB3 : Hid (Below w.heap.size w (W2.alloc (.cells #[.string gnm, .int .i64 gsz, .slice iA iN iC] 79))) := Lib.hid (HB2.out.alloc HB2.out.size _)
      have HM3 : Hid (WhM (W2.alloc (.cells #[.string gnm, .int .i64 gsz, .slice iA iN iC] 79)) base wx (.slice gA gn gc) (.slice sA sn sc) gl ds x) := Lib.hid (HM2.out.below ((Below.refl _ _).alloc (Nat.le_refl _) _))
      have HG3 : Hid (Blk (W2.alloc (.cells #[.string gnm, .int .i64 gsz, .slice iA iN iC] 79)) W2.heap.size 79 #[.string gnm, .int .i64 gsz, .slice iA iN iC]) := Lib.hid (Blk.new _ _ _)
      have Hz12 : Hid (W1.heap.size ≤ W2.heap.size ∧ w.heap.size ≤ W1.heap.size) := Lib.hid ⟨hb2.size, HB1.out.size⟩
      clear hb2 hok hg HG
      go_upto_region 7 with fail
      generalize hgo : W2.alloc (.cells #[.string gnm, .int .i64 gsz, .slice iA iN iC] 79) = W3 at *
      have Hgo := Lib.hid hgo
      obtain ⟨g6, hg6⟩ : ∃ g6, W2.heap.size = g6 := ⟨_, rfl⟩
      have Hg6 := Lib.hid hg6
      rw [hg6] at HG3 ⊢
      clear hgo hg6
      cases ok with
      | false =>
        have HE : Hid ((wlineP x s).1 = 1) := Lib.hid (by
          rw [HR2.out, globRes_none (by
            cases hgp : globP ws with
            | none => rfl
            | some g => rw [hgp] at Hok; exact absurd Hok.out (by simp))])
        go_wp2_with fail
        go_ret
        exact WLPost.bad HE.out HB3.out
      | true =>
        obtain ⟨g, hgp⟩ : ∃ g, globP ws = some g := Option.isSome_iff_exists.1 Hok.out
        obtain ⟨e1, e2, hiv⟩ := Hg.out g hgp
        subst e1 e2
        have HE : Hid (wlineP x s = (0, ⟨x.globs ++ [g], x.secs⟩)) := Lib.hid (by rw [HR2.out, globRes_some hgp])
        have HIv : Hid (OwnInts W3 base (.slice iA iN iC) g.init) := Lib.hid (by
          rw [← Hgo.out]
          exact World.ownsRow.alloc (OwnInts.more hiv (by have := Hz12.out; have := HB.out; omega)) _)
        clear hgp hiv Hok Hg
        obtain ⟨gnm, hgnm⟩ : ∃ gnm, g.name = gnm := ⟨_, rfl⟩
        obtain ⟨gsz, hgsz⟩ : ∃ gsz, g.size = gsz := ⟨_, rfl⟩
        obtain ⟨W4, hW4⟩ : ∃ W4, W3.drew = W4 := ⟨_, rfl⟩
        have HW4 := Lib.hid hW4
        have hb34 : Below W3.heap.size W3 W4 := by rw [← hW4]; exact ⟨rfl, rfl, rfl, Nat.le_refl _, fun _ _ => rfl⟩
        have HM4 : Hid (WhM W4 base wx (.slice gA gn gc) (.slice sA sn sc) gl ds x) := Lib.hid (HM3.out.below hb34)
        have HB4 : Hid (Below w.heap.size w W4) := Lib.hid (HB3.out.trans (hb34.mono HB3.out.size))
        have HG4 := Lib.hid (HG3.out.below hb34 HG3.out.lt)
        have hz4 : base ≤ W4.heap.size := Nat.le_trans HB.out HB4.out.size
        obtain ⟨B5, c5, W5, hr, hap⟩ := run_app_one (P := Tryz.prog) (w := W4) 40 40 79 _ 3 48 Tryz.underlying40 infoGlob rfl (by decide) (by decide) base _ _ _ HM4.out.globs.row [.string g.name, .int .i64 g.size, .slice iA iN iC] rfl (fun u hu => by simp at hu; rcases hu with rfl | rfl | rfl <;> rfl) (by rw [Hgn.out]; have := Hxb.out.1; have := Hgx.out; omega) hz4
        have hadd := HM4.out.addGlob (g := g) hap (by omega) (HIv.out.below hb34 rfl)
        have hnf : ∀ k, (Value.slice gA gn gc).ownBlock = some k → k < w.heap.size := fun k hk => own_lt HM.out.globs.row hk
        have hbx := hap.blk HM4.out.globs.row HM4.out.blk (by decide)
        have hg5 : Blk W5 g6 79 #[.string g.name, .int .i64 g.size, .slice iA iN iC] := (hap.2.2.1.block g6 HG4.out.lt (fun e => by have := hnf g6 e.symm; have := Hg6.out; have := Hz12.out; omega)).trans HG4.out
        rw [Hgn.out, hgnm, hgsz] at hr
        rw [Hgn.out] at hadd
        rw [hgnm, hgsz] at hg5
        have HAdd := Lib.hid hadd
        have Hr := Lib.hid hr
        rw [hgnm, hgsz] at HG4
        have HF : Hid (∀ w', w' = W4 ∨ w' = W4.alloc (.cells #[.string gnm, .int .i64 gsz, .slice iA iN iC] 79) ∨ w' = W5 → w'.cell? ⟨wx, 0, none⟩ = some (.slice gA gn gc) ∧ w'.cell? ⟨g6, 0, none⟩ = some (.string gnm) ∧ w'.cell? ⟨g6, 1, none⟩ = some (.int .i64 gsz) ∧ w'.cell? ⟨g6, 2, none⟩ = some (.slice iA iN iC)) := Lib.hid (by
          rintro w' (rfl | rfl | rfl)
          · exact ⟨HM4.out.blk.cell 0, HG4.out.cell 0, HG4.out.cell 1, HG4.out.cell 2⟩
          · exact ⟨(HM4.out.blk.alloc _).cell 0, (HG4.out.alloc _).cell 0, (HG4.out.alloc _).cell 1, (HG4.out.alloc _).cell 2⟩
          · exact ⟨hbx.cell 0, hg5.cell 0, hg5.cell 1, hg5.cell 2⟩)
        have e0 := hbx.cell 0
        have f0 := hbx.frozen 0
        simp only [List.getElem?_toArray, List.getElem?_cons_zero] at e0
        rw [hgnm, hgsz]
        clear hb34 hz4 hr hap hadd hnf hbx hg5 hgnm hgsz hW4
        go_wp2_with fail
        refine wp_region_lex (Three W4 (W4.alloc (.cells #[.string gnm, .int .i64 gsz, .slice iA iN iC] 79)) W5 (W5.setCell ⟨wx, 0, none⟩ (.slice B5 (gn + 1) c5)) 6 7 10 8) (by kernel_rfl) (by kernel_rfl) (by have h : ({ W3 with drawn := W3.drawn + 1 } : World) = W4 := HW4.out; rw [h]; exact Three.start) ?_
        iterate 6
          apply wpLex_step
          · rfl
          · intro L w' hC hL hd
            clear hd
            have F := HF.out w' (hC.pend hL (by decide))
            have HC := Lib.hid hC
            clear hC
            go_simp
            exact ⟨HC.out.keep _ (by decide) (by decide) (by decide), rfl⟩
          simp only [Act.put, List.setIfInBounds_toArray, List.set_cons_succ, List.set_cons_zero, Nat.reduceAdd]
        apply wpLex_step
        · rfl
        · intro L w' hC hL hd
          obtain ⟨hw, hC2⟩ := hC.at1 hL (by decide) (by decide) (by decide)
          subst hw
          have HC2 := Lib.hid hC2
          clear hd hC hL hC2
          go_simp
          exact ⟨HC2.out, rfl⟩
        simp only [Act.put, List.setIfInBounds_toArray, List.set_cons_succ, List.set_cons_zero, Nat.reduceAdd]
        apply wpLex_step
        · rfl
        · intro L w' hC hL hd
          obtain ⟨hw, hC2⟩ := hC.at2 hL (hd ⟨6, .data⟩ (by simp) rfl) (by decide) (by decide)
          subst hw
          rw [exec_app (.tmp 51) (.tmp 53) 40 40 rfl _ _ _ _ rfl rfl Hr.out]
          exact ⟨hC2, rfl⟩
        simp only [Act.put, List.setIfInBounds_toArray, List.set_cons_succ, List.set_cons_zero, Nat.reduceAdd]
        iterate 2
          apply wpLex_step
          · rfl
          · intro L w' hC hL hd
            clear hd
            have HC := Lib.hid hC
            clear hC
            go_simp
            exact ⟨HC.out.keep _ (by decide) (by decide) (by decide), rfl⟩
          simp only [Act.put, List.setIfInBounds_toArray, List.set_cons_succ, List.set_cons_zero, Nat.reduceAdd]
        apply wpLex_step
        · rfl
        · intro L w' hC hL hd
          obtain ⟨hw, hC2⟩ := hC.at3 hL (cover (m := 8) (by kernel_rfl) hd) (by decide) (by decide)
          subst hw
          have HC2 := Lib.hid hC2
          clear hd hC hL hC2
          go_simp
          exact ⟨HC2.out, rfl⟩
        simp only [Act.put, Nat.reduceAdd]
        apply wpLex_nil
        intro L w' hC hd
        obtain rfl := hC.end_ (hd 10 (by decide))
        clear hC hd
        go_wp2_with fail
        go_ret
        refine ⟨by rw [HE.out]; rfl, (outS_of HB4.out).trans HAdd.out.2.1 fun i _ hi => hi, fun _ => ⟨_, _, _, _, by rw [HE.out]; exact HAdd.out.1, fun k hk => (HAdd.out.2.2 k hk).imp id fun h => Nat.le_trans HB4.out.size h⟩⟩
set_option maxRecDepth 100000 in
set_option maxHeartbeats 4000000 in
/-- A line that begins with the word for a routine. -/
theorem wline_rout (s : List UInt8) (hs : s.length ≤ 900000) (hok : LineOk s) (w : World) (hM : WhM w base wx gv sv gl ds x) (hbase : base ≤ w.heap.size) (hx : x.globs.length ≤ 1000000 ∧ x.secs.length ≤ 1000000) (h0 : (wordsP s).getD 0 [] = routW) :
    Calls Tryz.prog 36 #[.pointer (some ⟨wx, 0, none⟩), .string (mkS s)] w (WLPost w base wx gv sv ds (wlineP x s)) := by
  have HF := Lib.hid (FieldsF_any s (by omega) w)
  obtain ⟨ws, hws⟩ : ∃ ws, wordsP s = ws := ⟨_, rfl⟩
  obtain ⟨m, hm⟩ : ∃ m, ws.length = m := ⟨_, rfl⟩
  have hWl := words_len hs
  obtain ⟨wa, wr0, hcons⟩ := words_ne hok
  rw [hws] at HF h0 hWl hcons
  rw [hm] at HF
  have hW0 : ws[0]? = some routW := by rw [hcons] at h0 ⊢; simp at h0 ⊢; exact h0
  have hm0 : 0 < m := by rw [← hm, hcons]; simp
  obtain ⟨sA, sc, hsv⟩ := row_form hM.ptrs
  subst hsv
  obtain ⟨sn, hsn⟩ : ∃ sn, ds.length = sn := ⟨_, rfl⟩
  have hsx : sn = x.secs.length := by rw [← hsn, hM.secs.len, List.length_map]
  rw [hsn] at hM ⊢
  have HM := Lib.hid hM
  have HB := Lib.hid hbase
  have Hm := Lib.hid hm
  have HWl := Lib.hid hWl
  have HW0 := Lib.hid hW0
  have Hsx := Lib.hid hsx
  have Hxb := Lib.hid hx
  have Hsn := Lib.hid hsn
  have HR : Hid (wlineP x s = if ws.length = 2 ∧ nameS (mkS (ws.getD 1 [])) = true then ((0 : Int), ⟨x.globs, x.secs ++ [⟨ws.getD 1 [], ⟨[], []⟩⟩]⟩) else (1, x)) := Lib.hid (by unfold wlineP; rw [hws, if_neg (by rw [h0]; decide), if_pos h0])
  clear hM hbase hs hok hWl hcons hws hm hW0 hsx hx hsn h0
  go_enter Tryz.func36, Tryz.ntmps36
  go_wp2_with fail
  refine HF.out.mono ?_
  rintro e W1 ⟨b, rfl, ho, hb⟩
  have HO := Lib.hid ho
  have HB1 := Lib.hid hb
  have HM1 := Lib.hid (HM.out.below hb)
  obtain ⟨b', c', hbe, _, hb1, hbc⟩ := ho.at_ HW0.out
  have hb' : b' = b := by have h1 := (Value.slice.inj hbe).1; injection h1 with h1; injection h1 with h1; exact h1.symm
  rw [hb'] at hbc
  clear hbe hb1 hb'
  have q0 : ((mkS routW).toList == [103, 108, 111, 98, 97, 108]) = false := by rw [mkS_toList]; decide
  have q1 : ((mkS routW).toList == [114, 111, 117, 116, 105, 110, 101]) = true := by rw [mkS_toList]; rfl
  have m1 := HM1.out.blk.cell 1
  have k0 : (0 : Int) < (m : Int) := by omega
  clear ho hb HF
  by_cases h2 : m = 2
  · subst h2
    obtain ⟨nm, hnm⟩ : ∃ nm, ws[1]? = some nm := ⟨ws[1]'(by rw [Hm.out]; decide), List.getElem?_eq_getElem _⟩
    have hgd : ws.getD 1 [] = nm := by rw [List.getD_eq_getElem?_getD, hnm]; rfl
    obtain ⟨b', c', hbe, _, hb1, hbn⟩ := (show OwnS W1 w.heap.size (.slice (some ⟨b, 0, none⟩) ws.length ws.length) ws from by rw [Hm.out]; exact HO.out).at_ hnm
    have hb' : b' = b := by have h1 := (Value.slice.inj hbe).1; injection h1 with h1; injection h1 with h1; exact h1.symm
    rw [hb'] at hbn hb1
    have Hb1 := Lib.hid hb1
    have HNm := Lib.hid (Name_any (mkS nm) W1 (by rw [mkS_size]; have := HWl.out.2 nm (List.mem_of_getElem? hnm); omega))
    have hlitN : ¬ ((2 : Nat) : Int) ≠ 2 := by decide
    have k1 : (1 : Int) < ((2 : Nat) : Int) := by decide
    obtain ⟨ok, hok⟩ : ∃ ok, nameS (mkS nm) = ok := ⟨_, rfl⟩
    have HE : Hid (wlineP x s = if ok = true then ((0 : Int), ⟨x.globs, x.secs ++ [⟨nm, ⟨[], []⟩⟩]⟩) else (1, x)) := Lib.hid (by
      rw [HR.out, hgd, hok, Hm.out]
      cases ok <;> simp)
    rw [hok] at HNm
    clear hnm hgd hbe hb' hb1 hok HR
    go_wp2_with fail
    refine HNm.out.mono ?_
    rintro e w1 ⟨rfl, rfl⟩
    clear HNm
    cases ok with
    | false =>
      go_wp2_with fail
      go_ret
      exact WLPost.bad (by rw [HE.out]; rfl) HB1.out
    | true =>
      obtain ⟨V0, hV0⟩ : ∃ V0, W1.drew = V0 := ⟨_, rfl⟩
      have HV0 := Lib.hid hV0
      have hb10 : Below W1.heap.size W1 V0 := by rw [← hV0]; exact ⟨rfl, rfl, rfl, Nat.le_refl _, fun _ _ => rfl⟩
      have HM0 := HM1.out.below hb10
      have HB0 : Hid (Below w.heap.size w V0) := Lib.hid (HB1.out.trans (hb10.mono HB1.out.size))
      obtain ⟨lb, hlb⟩ : ∃ lb, V0.heap.size = lb := ⟨_, rfl⟩
      obtain ⟨V1, hV1⟩ : ∃ V1, V0.alloc (.map #[] 0) = V1 := ⟨_, rfl⟩
      have hz1 : V1.heap.size = lb + 1 := by rw [← hV1, ← hlb]; simp
      obtain ⟨V2, hV2⟩ : ∃ V2, V1.alloc (.cells #[.string (mkS nm), .slice none 0 0, .map (some lb), .slice none 0 0, .slice none 0 0] 56) = V2 := ⟨_, rfl⟩
      have hz2 : V2.heap.size = lb + 1 + 1 := by rw [← hV2, ← hz1]; simp
      have hb02 : Below V0.heap.size V0 V2 := by rw [← hV2, ← hV1]; exact ((Below.refl _ _).alloc (Nat.le_refl _) _).alloc (by simp) _
      have HM2 := HM0.below hb02
      have HB2 : Below w.heap.size w V2 := HB0.out.trans (hb02.mono HB0.out.size)
      have hz0 := HB0.out.size
      have hsec : SecOf V2 base ⟨lb + 1, lb, .slice none 0 0, .slice none 0 0, .slice none 0 0⟩ (entOf ⟨nm, ⟨[], []⟩⟩) := by
        refine ⟨?_, OwnMacs.nil _ _, ?_, OwnG.nil _ _, OwnG.nil _ _, fun k h => (by cases h), ⟨?_, ?_⟩⟩
        · rw [← hV2, ← hz1]; exact Blk.new _ _ _
        · have h1 : LabMap V1 lb [] := by rw [← hV1, ← hlb]; exact LabMap.made V0
          rw [← hV2]
          exact h1.stay (Below.heap_alloc _ _ _ h1.lt)
        · show base ≤ lb + 1; have := HB.out; omega
        · show base ≤ lb; have := HB.out; omega
      have hin : ∀ k, SecD.In ⟨lb + 1, lb, .slice none 0 0, .slice none 0 0, .slice none 0 0⟩ k → lb ≤ k := fun k h => by
        rcases h with h | h | h | h | h
        · have h : k = lb + 1 := h
          omega
        · have h : k = lb := h
          omega
        · cases h
        · cases h
        · cases h
      obtain ⟨B5, c5, V4, hr, hap⟩ := run_app_one (P := Tryz.prog) (w := V2) 68 68 52 _ 1 8 Tryz.underlying68 infoSecP rfl (by decide) (by decide) base _ _ _ HM2.ptrs [.pointer (some ⟨lb + 1, 0, none⟩)] rfl (fun u hu => by simp at hu; subst hu; rfl) (by rw [Hsn.out]; have := Hxb.out.2; have := Hsx.out; omega) (Nat.le_trans HB.out HB2.size)
      have hadd := HM2.addSec (d := ⟨lb + 1, lb, .slice none 0 0, .slice none 0 0, .slice none 0 0⟩) (nm := nm) hap (by omega) hsec (fun k h1 h2 => by have := hin k h1; have := HM0.secs.lt h2; omega) (M := w.heap.size) HB2.size (fun k h => by have := hin k h; omega)
      rw [Hsn.out] at hadd hr
      obtain ⟨V3, hV3⟩ : ∃ V3, V2.alloc (.cells #[.pointer (some ⟨lb + 1, 0, none⟩)] 52) = V3 := ⟨_, rfl⟩
      have hbx := hap.blk HM2.ptrs HM2.blk (by decide)
      have hbl : b < V0.heap.size := Nat.lt_of_lt_of_le Hb1.out hb10.size
      have hnb : (Value.slice sA sn sc).ownBlock ≠ some b := own_two HO.out HM1.out.ptrs (by decide) b rfl
      have hc0 : V0.cell? ⟨b, 1, none⟩ = some (.string (mkS nm)) := (bcell hb10 Hb1.out).trans hbn
      have hb01 : Below V0.heap.size V0 V1 := by rw [← hV1]; exact (Below.refl _ _).alloc (Nat.le_refl _) _
      have hb03 : Below V0.heap.size V0 V3 := by rw [← hV3]; exact hb02.alloc (by omega) _
      have hcw : ∀ w', Below V0.heap.size V0 w' → w'.cell? ⟨wx, 1, none⟩ = some (.slice sA sn sc) ∧ w'.cell? ⟨b, 1, none⟩ = some (.string (mkS nm)) := fun w' h => ⟨(HM0.blk.below h HM0.blk.lt).cell 1, (bcell h hbl).trans hc0⟩
      have hc4 : V4.cell? ⟨b, 1, none⟩ = some (.string (mkS nm)) := by
        have h1 : V4.heap[b]? = V2.heap[b]? := hap.2.2.1.block b (Nat.lt_of_lt_of_le hbl hb02.size) (fun e => hnb e.symm)
        have h2 := (hcw V2 hb02).2
        unfold World.cell? at h2 ⊢
        rw [h1]
        exact h2
      have HAdd := Lib.hid hadd
      have Hr := Lib.hid hr
      have HF : Hid (∀ w' ∈ [V0, V1, V1, V2, V3, V4], w'.cell? ⟨wx, 1, none⟩ = some (.slice sA sn sc) ∧ w'.cell? ⟨b, 1, none⟩ = some (.string (mkS nm))) := Lib.hid (by
        intro w' hw'
        simp only [List.mem_cons, List.not_mem_nil, or_false] at hw'
        rcases hw' with rfl | rfl | rfl | rfl | rfl | rfl
        · exact hcw _ (Below.refl _ _)
        · exact hcw _ hb01
        · exact hcw _ hb01
        · exact hcw _ hb02
        · exact hcw _ hb03
        · exact ⟨hbx.cell 1, hc4⟩)
      have e1 := hbx.cell 1
      have f1 := hbx.frozen 1
      simp only [List.getElem?_toArray, List.getElem?_cons_succ, List.getElem?_cons_zero] at e1
      have hmm := @run_makeMap Tryz.prog
      have HB2h := Lib.hid HB2
      have HVs : Hid (V0.heap.size = lb ∧ V0.alloc (.map #[] 0) = V1 ∧ V1.heap.size = lb + 1 ∧ V1.alloc (.cells #[.string (mkS nm), .slice none 0 0, .map (some lb), .slice none 0 0, .slice none 0 0] 56) = V2) := Lib.hid ⟨hlb, hV1, hz1, hV2⟩
      subst hV3
      clear hb10 HM0 hb02 HM2 HB2 hz0 hsec hin hap hadd hr hbx hbl hnb hc0 hb01 hb03 hcw hc4 hV0 hlb hV1 hz1 hV2 hz2
      go_wp2_with fail
      refine wp_region_lex (ChainF [8, 9, 10, 11, 12, 15] [V0, V1, V1, V2, V2.alloc (.cells #[.pointer (some ⟨lb + 1, 0, none⟩)] 52), V4, V4.setCell ⟨wx, 1, none⟩ (.slice B5 (sn + 1) c5)] 13) (by kernel_rfl) (by kernel_rfl) (by have h : ({ W1 with drawn := W1.drawn + 1 } : World) = V0 := HV0.out; rw [h]; exact ChainF.start rfl) ?_
      apply wpLex_step
      · rfl
      · intro L w' hC hL hd
        clear hd
        have F := HF.out w' (hC.pend hL (by decide) (by decide))
        have HC := Lib.hid hC
        clear hC
        go_simp
        exact ⟨HC.out.keep _ (by decide), rfl⟩
      simp only [Act.put, List.setIfInBounds_toArray, List.set_cons_succ, List.set_cons_zero, Nat.reduceAdd]
      apply wpLex_step
      · rfl
      · intro L w' hC hL hd
        clear hd
        have F := HF.out w' (hC.pend hL (by decide) (by decide))
        have HC := Lib.hid hC
        clear hC
        go_simp
        exact ⟨HC.out.keep _ (by decide), rfl⟩
      simp only [Act.put, List.setIfInBounds_toArray, List.set_cons_succ, List.set_cons_zero, Nat.reduceAdd]
      apply wpLex_step
      · rfl
      · intro L w' hC hL hd
        clear hd
        have F := HF.out w' (hC.pend hL (by decide) (by decide))
        have HC := Lib.hid hC
        clear hC
        go_simp
        exact ⟨HC.out.keep _ (by decide), rfl⟩
      simp only [Act.put, List.setIfInBounds_toArray, List.set_cons_succ, List.set_cons_zero, Nat.reduceAdd]
      apply wpLex_step
      · rfl
      · intro L w' hC hL hd
        clear hd
        have F := HF.out w' (hC.pend hL (by decide) (by decide))
        have HC := Lib.hid hC
        clear hC
        go_simp
        exact ⟨HC.out.keep _ (by decide), rfl⟩
      simp only [Act.put, List.setIfInBounds_toArray, List.set_cons_succ, List.set_cons_zero, Nat.reduceAdd]
      apply wpLex_step
      · rfl
      · intro L w' hC hL hd
        clear hd
        have F := HF.out w' (hC.pend hL (by decide) (by decide))
        have HC := Lib.hid hC
        clear hC
        go_simp
        exact ⟨HC.out.keep _ (by decide), rfl⟩
      simp only [Act.put, List.setIfInBounds_toArray, List.set_cons_succ, List.set_cons_zero, Nat.reduceAdd]
      apply wpLex_step
      · rfl
      · intro L w' hC hL hd
        clear hd
        have F := HF.out w' (hC.pend hL (by decide) (by decide))
        have HC := Lib.hid hC
        clear hC
        go_simp
        exact ⟨HC.out.keep _ (by decide), rfl⟩
      simp only [Act.put, List.setIfInBounds_toArray, List.set_cons_succ, List.set_cons_zero, Nat.reduceAdd]
      apply wpLex_step
      · rfl
      · intro L w' hC hL hd
        clear hd
        have F := HF.out w' (hC.pend hL (by decide) (by decide))
        have HC := Lib.hid hC
        clear hC
        go_simp
        exact ⟨HC.out.keep _ (by decide), rfl⟩
      simp only [Act.put, List.setIfInBounds_toArray, List.set_cons_succ, List.set_cons_zero, Nat.reduceAdd]
      apply wpLex_step
      · rfl
      · intro L w' hC hL hd
        clear hd
        have F := HF.out w' (hC.pend hL (by decide) (by decide))
        have HC := Lib.hid hC
        clear hC
        go_simp
        exact ⟨HC.out.keep _ (by decide), rfl⟩
      simp only [Act.put, List.setIfInBounds_toArray, List.set_cons_succ, List.set_cons_zero, Nat.reduceAdd]
      apply wpLex_step
      · rfl
      · intro L w' hC hL hd
        obtain ⟨hw, hC2⟩ := hC.at_ (j := 0) rfl (by decide) hL (by decide) (fun k' h => absurd rfl h) rfl rfl
        subst hw
        have HC2 := Lib.hid hC2
        clear hd hC hL hC2
        obtain ⟨hv0, hv1, _, _⟩ := HVs.out
        go_simp
        exact ⟨HC2.out, rfl⟩
      simp only [Act.put, List.setIfInBounds_toArray, List.set_cons_succ, List.set_cons_zero, Nat.reduceAdd]
      apply wpLex_step
      · rfl
      · intro L w' hC hL hd
        obtain ⟨hw, hC2⟩ := hC.at_ (j := 1) rfl (by decide) hL (by decide) (fun k' _ h => by cases h; exact hd ⟨8, .data⟩ (by simp) rfl) rfl rfl
        subst hw
        have HC2 := Lib.hid hC2
        clear hd hC hL hC2
        go_simp
        exact ⟨HC2.out, rfl⟩
      simp only [Act.put, List.setIfInBounds_toArray, List.set_cons_succ, List.set_cons_zero, Nat.reduceAdd]
      apply wpLex_step
      · rfl
      · intro L w' hC hL hd
        obtain ⟨hw, hC2⟩ := hC.at_ (j := 2) rfl (by decide) hL (by decide) (fun k' _ h => by cases h; exact hd ⟨9, .data⟩ (by simp) rfl) rfl rfl
        subst hw
        have HC2 := Lib.hid hC2
        clear hd hC hL hC2
        obtain ⟨_, _, hv1, hv2⟩ := HVs.out
        go_simp
        exact ⟨HC2.out, rfl⟩
      simp only [Act.put, List.setIfInBounds_toArray, List.set_cons_succ, List.set_cons_zero, Nat.reduceAdd]
      apply wpLex_step
      · rfl
      · intro L w' hC hL hd
        obtain ⟨hw, hC2⟩ := hC.at_ (j := 3) rfl (by decide) hL (by decide) (fun k' _ h => by cases h; exact hd ⟨10, .data⟩ (by simp) rfl) rfl rfl
        subst hw
        have HC2 := Lib.hid hC2
        clear hd hC hL hC2
        go_simp
        exact ⟨HC2.out, rfl⟩
      simp only [Act.put, List.setIfInBounds_toArray, List.set_cons_succ, List.set_cons_zero, Nat.reduceAdd]
      apply wpLex_step
      · rfl
      · intro L w' hC hL hd
        obtain ⟨hw, hC2⟩ := hC.at_ (j := 4) rfl (by decide) hL (by decide) (fun k' _ h => by cases h; exact hd ⟨11, .data⟩ (by simp) rfl) rfl rfl
        subst hw
        rw [exec_app (.tmp 76) (.tmp 83) 68 68 rfl _ _ _ _ rfl rfl Hr.out]
        exact ⟨hC2, rfl⟩
      simp only [Act.put, List.setIfInBounds_toArray, List.set_cons_succ, List.set_cons_zero, Nat.reduceAdd]
      apply wpLex_step
      · rfl
      · intro L w' hC hL hd
        clear hd
        have HC := Lib.hid hC
        clear hC
        go_simp
        exact ⟨HC.out.keep _ (by decide), rfl⟩
      simp only [Act.put, List.setIfInBounds_toArray, List.set_cons_succ, List.set_cons_zero, Nat.reduceAdd]
      apply wpLex_step
      · rfl
      · intro L w' hC hL hd
        clear hd
        have HC := Lib.hid hC
        clear hC
        go_simp
        exact ⟨HC.out.keep _ (by decide), rfl⟩
      simp only [Act.put, List.setIfInBounds_toArray, List.set_cons_succ, List.set_cons_zero, Nat.reduceAdd]
      apply wpLex_step
      · rfl
      · intro L w' hC hL hd
        obtain ⟨hw, hC2⟩ := hC.last (j := 5) rfl hL (by decide) (cover (m := 13) (by kernel_rfl) hd) (fun k' _ h => by cases h; decide) rfl rfl
        subst hw
        have HC2 := Lib.hid hC2
        clear hd hC hL hC2
        go_simp
        exact ⟨HC2.out, rfl⟩
      simp only [Act.put, Nat.reduceAdd]
      apply wpLex_nil
      intro L w' hC hd
      obtain rfl := hC.end_ (fun k hk => hd k (by simp only [List.mem_cons, List.not_mem_nil, or_false] at hk; simp only [List.length_cons, List.length_nil]; omega)) rfl rfl
      clear hC hd
      go_wp2_with fail
      go_ret
      exact ⟨by rw [HE.out]; rfl, (outS_of HB2h.out).trans HAdd.out.2.1 fun i _ hi => hi, fun _ => ⟨_, _, _, _, by rw [HE.out]; exact HAdd.out.1, HAdd.out.2.2⟩⟩
  · have hm2 : ((m : Int) != 2) = true := by rw [bne_iff_ne]; omega
    have hm3 : ((m : Int) == 2) = false := by rw [beq_eq_false_iff_ne]; omega
    have HE : Hid ((wlineP x s).1 = 1) := Lib.hid (by rw [HR.out, if_neg (fun h => h2 (by rw [← Hm.out]; exact h.1))])
    clear h2
    go_wp2_with fail
    go_ret
    exact WLPost.bad HE.out HB1.out
theorem set_lastW {α : Type} {l : List α} {z y : α} (h : l.getLast? = some y) : l.dropLast ++ [z] = l.set (l.length - 1) z := by
  have hne : l ≠ [] := by intro e; rw [e] at h; cases h
  have he : l = l.dropLast ++ [y] := by
    rw [List.getLast?_eq_some_getLast hne] at h
    cases h
    exact (List.dropLast_concat_getLast hne).symm
  have hl : l.length - 1 = l.dropLast.length := by rw [List.length_dropLast]
  rw [hl]
  conv => rhs; rw [he]
  simp
set_option maxRecDepth 100000 in
set_option maxHeartbeats 4000000 in
/-- A line of code. -/
theorem wline_code (s : List UInt8) (hs : s.length ≤ 900000) (hok : LineOk s) (w : World) (hS : Std w) (hM : WhM w base wx gv sv gl ds x) (hbase : base ≤ w.heap.size) (hx : ∀ y ∈ x.secs, y.st.code.length ≤ 1000000 ∧ y.st.labs.length ≤ 1000000) (h0 : (wordsP s).getD 0 [] ≠ globW) (h1 : (wordsP s).getD 0 [] ≠ routW) :
    Calls Tryz.prog 36 #[.pointer (some ⟨wx, 0, none⟩), .string (mkS s)] w (WLPost w base wx gv sv ds (wlineP x s)) := by
  have HF := Lib.hid (FieldsF_any s (by omega) w)
  obtain ⟨ws, hws⟩ : ∃ ws, wordsP s = ws := ⟨_, rfl⟩
  obtain ⟨m, hm⟩ : ∃ m, ws.length = m := ⟨_, rfl⟩
  obtain ⟨wa, wr0, hcons⟩ := words_ne hok
  have HR : Hid (wlineP x s = lastLineP x s) := Lib.hid (by unfold wlineP; rw [if_neg h0, if_neg h1])
  rw [hws] at HF h0 h1 hcons
  rw [hm] at HF
  have hW0 : ws[0]? = some wa := by rw [hcons]; rfl
  have hga : ws.getD 0 [] = wa := by rw [hcons]; rfl
  rw [hga] at h0 h1
  have hm0 : 0 < m := by rw [← hm, hcons]; simp
  obtain ⟨sA, sc, hsv⟩ := row_form hM.ptrs
  subst hsv
  obtain ⟨sn, hsn⟩ : ∃ sn, ds.length = sn := ⟨_, rfl⟩
  have hsx : sn = x.secs.length := by rw [← hsn, hM.secs.len, List.length_map]
  rw [hsn] at hM ⊢
  have HM := Lib.hid hM
  have HS := Lib.hid hS
  have HB := Lib.hid hbase
  have HW0 := Lib.hid hW0
  have Hm := Lib.hid hm
  have Hsx := Lib.hid hsx
  have Hxb := Lib.hid hx
  have Hsn := Lib.hid hsn
  have Hs := Lib.hid hs
  have HLok := Lib.hid hok
  have q0 : ((mkS wa).toList == [103, 108, 111, 98, 97, 108]) = false := by rw [mkS_toList]; exact beq_false_of_ne h0
  have q1 : ((mkS wa).toList == [114, 111, 117, 116, 105, 110, 101]) = false := by rw [mkS_toList]; exact beq_false_of_ne h1
  clear hM hS hbase hs hok hcons hws hm hW0 hsx hx hsn h0 h1 hga
  go_enter Tryz.func36, Tryz.ntmps36
  go_wp2_with fail
  refine HF.out.mono ?_
  rintro e W1 ⟨b, rfl, ho, hb⟩
  have HB1 := Lib.hid hb
  have HS1 := Lib.hid (HS.out.own hb)
  have HM1 := Lib.hid (HM.out.below hb)
  obtain ⟨b', c', hbe, _, hb1, hbc⟩ := ho.at_ HW0.out
  have hb' : b' = b := by have h1 := (Value.slice.inj hbe).1; injection h1 with h1; injection h1 with h1; exact h1.symm
  rw [hb'] at hbc
  have m1 := HM1.out.blk.cell 1
  have k0 : (0 : Int) < (m : Int) := by omega
  clear hbe hb1 hb' ho hb HF
  by_cases hs0 : sn = 0
  · subst hs0
    have HE : Hid ((wlineP x s).1 = 1) := Lib.hid (by rw [HR.out]; unfold lastLineP; rw [List.eq_nil_of_length_eq_zero Hsx.out.symm]; rfl)
    go_wp2_with fail
    go_ret
    exact WLPost.bad HE.out HB1.out
  · have hsn0 : ((sn : Int) == 0) = false := by rw [beq_eq_false_iff_ne]; omega
    obtain ⟨d, hd⟩ : ∃ d, ds[sn - 1]? = some d := ⟨ds[sn - 1]'(by rw [Hsn.out]; omega), List.getElem?_eq_getElem _⟩
    obtain ⟨y, hy⟩ : ∃ y, x.secs.getLast? = some y := by
      cases h : x.secs.getLast? with
      | none => rw [List.getLast?_eq_none_iff] at h; rw [h] at Hsx; exact absurd Hsx.out hs0
      | some y => exact ⟨y, rfl⟩
    have hyi : x.secs[sn - 1]? = some y := by rw [List.getLast?_eq_getElem?, ← Hsx.out] at hy; exact hy
    have hsd : Sec W1 base d.bx y.name y.st d.cv d.lb d.gv d.kv := HM1.out.secs.each (sn - 1) d (entOf y) hd (by rw [List.getElem?_map, hyi]; rfl)
    obtain ⟨b2, c2, hbe, _, hb2, hbp⟩ := (show OwnPs W1 base (.slice sA ds.length sc) ds from by rw [Hsn.out]; exact HM1.out.ptrs).at_ hd
    have hA : sA = some ⟨b2, 0, none⟩ := (Value.slice.inj hbe).1
    subst hA
    have HL := Lib.hid (line_any true s Hs.out HLok.out W1 HS1.out hsd (Nat.le_trans HB.out HB1.out.size) (Hxb.out y (List.mem_of_getLast? hy)).2 (Hxb.out y (List.mem_of_getLast? hy)).1)
    have HL2 := Lib.hid (line_any true s Hs.out HLok.out W1.drew (HS1.out.own (below_drewn W1 1 W1.heap.size)) (show Sec W1.drew base d.bx y.name y.st d.cv d.lb d.gv d.kv from SecM.stay hsd fun _ _ => rfl) (Nat.le_trans HB.out HB1.out.size) (Hxb.out y (List.mem_of_getLast? hy)).2 (Hxb.out y (List.mem_of_getLast? hy)).1)
    have HE : Hid (wlineP x s = ((lineP true y.st s).1, ⟨x.globs, x.secs.set (sn - 1) ⟨y.name, (lineP true y.st s).2⟩⟩)) := Lib.hid (by rw [HR.out]; unfold lastLineP; rw [hy]; simp only; rw [set_lastW hy, Hsx.out])
    have k1 : wrap64 ((sn : Int) - 1) = ((sn - 1 : Nat) : Int) := by
      have : sn ≤ 9223372036854775807 := by
        rcases HM1.out.ptrs.2 with ⟨h, _⟩ | ⟨g, cap, cur, e1, _, _, hnc, hcm, _⟩
        · cases h
        · cases e1; rw [Hsn.out] at hnc; unfold maxLen at hcm; omega
      rw [IntWalk.wrap64_in _ (by omega)]
      omega
    obtain ⟨k, hk⟩ : ∃ k, sn - 1 = k := ⟨_, rfl⟩
    rw [hk] at k1 hbp
    have k2 : IntKind.i64.wrap ((sn : Int) - 1) = (k : Int) := (IntWalk.i64_left _).trans k1
    have Hk := Lib.hid hk
    have hkn : (k : Int) < (sn : Int) := by omega
    have hk0 : (0 : Int) ≤ (k : Int) := Int.natCast_nonneg k
    have Hd := Lib.hid hd
    clear hd hy hyi hbe hb2 hs0 hk
    go_wp2_with fail
    go_still_tail 13, (by kernel_rfl)
    go_wp2_with fail
    refine HL2.out.mono ?_
    rintro e W2 ⟨rfl, ho, hsec⟩
    have HO := Lib.hid ho
    have HSc := Lib.hid hsec
    clear ho hsec HL HL2
    go_wp2_with fail
    go_ret
    refine ⟨by rw [HE.out]; rfl, ?_, fun h => ?_⟩
    · exact (outS_of HB1.out).trans (HO.out.drewn.wider fun i _ hi => .inr (.inr (.inr ⟨d, List.mem_of_getElem? Hd.out, hi⟩))) fun i _ hi => hi
    · rw [HE.out] at h ⊢
      obtain ⟨cv', gv', kv', hm2, hk2⟩ := HSc.out h
      have hl := HM1.out.line (d' := ⟨d.bx, d.lb, cv', gv', kv'⟩) (y' := ⟨y.name, (lineP true y.st s).2⟩) Hd.out HO.out.drewn hm2 rfl hk2
      rw [Hk.out] at hl ⊢
      exact ⟨_, _, _, _, hl.1, fun j hj => (hl.2.2 j hj).imp id fun h => Nat.le_trans HB1.out.size h⟩
/-- A line of a whole text. -/
theorem wline_any (s : List UInt8) (hs : s.length ≤ 900000) (hok : LineOk s) (w : World) (hS : Std w) (hM : WhM w base wx gv sv gl ds x) (hbase : base ≤ w.heap.size) {i : Nat} (hx : WOk x i) (hi : i ≤ 1000000) :
    Calls Tryz.prog 36 #[.pointer (some ⟨wx, 0, none⟩), .string (mkS s)] w (WLPost w base wx gv sv ds (wlineP x s)) := by
  have h2 : x.globs.length ≤ 1000000 ∧ x.secs.length ≤ 1000000 := ⟨Nat.le_trans hx.1 hi, Nat.le_trans hx.2.1 hi⟩
  by_cases h0 : (wordsP s).getD 0 [] = globW
  · exact wline_glob s hs hok w hS hM hbase h2 h0
  by_cases h1 : (wordsP s).getD 0 [] = routW
  · exact wline_rout s hs hok w hM hbase h2 h1
  exact wline_code s hs hok w hS hM hbase (fun y hy => ⟨Nat.le_trans (hx.2.2.2 y hy).2.2.1 hi, Nat.le_trans (hx.2.2.2 y hy).2.2.2 hi⟩) h0 h1
end
end Go.Proofs.YtdldochhondifaaGreatDoor
