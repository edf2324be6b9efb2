/-
  colour.Of.
  Conditions: the unit's numbers are Go's.
-/
import Derived.Test.YtiknhfbkphoceaaGreatDoorCoJ
import Derived.BigRegion
import Derived.Deep.DeepCutAuto
namespace Go.Proofs.YtiknhfbkphoceaaGreatDoor
open Go.RowKit
attribute [local go_sem] Oper.semAt_some

set_option maxRecDepth 100000 in
set_option maxHeartbeats 8000000 in
theorem Colour_any (gv fv : Value) (gs : List Glob) (fs : List FunU) (k m : Int) (w : World) (hk : I64 k) (hu : UnitAt w w.heap.size gv fv gs fs) :
    Calls Tryz.prog 4 #[.agg #[gv, fv], .int .i64 k, .int .i64 m] w (ColPost w gs fs k m) := by
  have HU := Lib.hid hu
  obtain ⟨A, c, rfl, hl1, hl2⟩ := SlAt.form hu.funs
  obtain ⟨l, hl⟩ : ∃ l, fs.length = l := ⟨_, rfl⟩
  rw [hl] at HU hl1 ⊢
  have Hl := Lib.hid hl
  have HP : Hid (∀ e w', (∃ v ps, e = .returned (.tuple #[v, .agg #[.int .i64 (colF gs fs k m).1, .int .i64 (colF gs fs k m).2]]) ∧ OwnInts w' w.heap.size v ps ∧ Below w.heap.size w w' ∧
    ((colF gs fs k m).1 ≠ 0 → ps = []) ∧ ((colF gs fs k m).1 = 0 → ∀ f, fs[k.toNat]? = some f → Coloured f (ofF gs fs k) (acrossF gs fs k) (givenS m.toNat) (weightsF gs fs k) (listS f.regs.toNat (inU f.blocks 0)) f.regs.toNat ps)) → ColPost w gs fs k m e w') := Lib.hid fun _ _ h => h
  generalize ColPost w gs fs k m = PE at *
  have Hk : Hid (I64 k) := Lib.hid hk
  have HW0 : Hid (Below w.heap.size w ((w.alloc (.cells #[gv, .slice A l c] 25)).alloc (.cells #[.int .i64 0, .int .i64 0] 28))) := Lib.hid (((Below.refl _ _).alloc (Nat.le_refl _) _).alloc (by simp) _)
  have HC0 : Hid (Blk ((w.alloc (.cells #[gv, .slice A l c] 25)).alloc (.cells #[.int .i64 0, .int .i64 0] 28)) w.heap.size 25 #[gv, .slice A l c]) := Lib.hid ((Blk.new w _ _).alloc _)
  have HX0 : Hid (Blk ((w.alloc (.cells #[gv, .slice A l c] 25)).alloc (.cells #[.int .i64 0, .int .i64 0] 28)) (w.heap.size + 1) 28 #[.int .i64 0, .int .i64 0]) := Lib.hid (by simpa using Blk.new (w.alloc (.cells #[gv, .slice A l c] 25)) 28 #[.int .i64 0, .int .i64 0])
  clear hu hk hl
  go_enter Tryz.func4, Tryz.ntmps4
  go_upto_region 1 with fail
  generalize (w.alloc (.cells #[gv, .slice A l c] 25)).alloc (.cells #[.int .i64 0, .int .i64 0] 28) = W0 at *
  generalize hg1 : w.heap.size + 1 = g1 at *
  have Hlg : Hid (w.heap.size ≤ g1) := Lib.hid (by omega)
  have hul : w.heap.size ≠ g1 := by omega
  have Hul := Lib.hid hul
  clear hg1 hul
  have c0 := HC0.out.cell 0
  have c1 := HC0.out.cell 1
  have HU0 := Lib.hid (HU.out.later HW0.out)
  have HOf := Lib.hid (Of_any gv _ gs fs k W0 Hk.out HU0.out)
  go_wp2_with fail
  refine HOf.out.mono ?_
  rintro e W1 ⟨v, rfl, hv, hb1⟩
  obtain ⟨uc, ua, hun⟩ : ∃ uc ua, clashF gs fs k = (uc, ua) := ⟨_, _, rfl⟩
  rw [hun]
  have Hun := Lib.hid hun
  obtain ⟨vA, vc, rfl⟩ := hv.form
  have hz1 := HW0.out.size
  have HB2 : Hid (Below w.heap.size w (W1.alloc (.cells #[.int .i64 uc, .int .i64 ua] 28))) := Lib.hid ((HW0.out.trans (hb1.mono hz1)).alloc (Nat.le_trans hz1 hb1.size) _)
  have HC2 := Lib.hid ((HC0.out.below hb1 HC0.out.lt).alloc (.cells #[.int .i64 uc, .int .i64 ua] 28))
  have HX2 := Lib.hid ((HX0.out.below hb1 HX0.out.lt).alloc (.cells #[.int .i64 uc, .int .i64 ua] 28))
  have HF2 : Hid (Blk (W1.alloc (.cells #[.int .i64 uc, .int .i64 ua] 28)) W1.heap.size 28 #[.int .i64 uc, .int .i64 ua]) := Lib.hid (Blk.new _ _ _)
  have HV2 := Lib.hid ((hv.below (w' := W1.alloc (.cells #[.int .i64 uc, .int .i64 ua] 28)) ((Below.refl _ _).alloc (Nat.le_refl _) _) rfl).rows)
  clear hun hv hb1 hz1 HU0 HOf HC0 HX0 HW0 c0 c1
  go_upto_region 2 with fail
  generalize W1.alloc (.cells #[.int .i64 uc, .int .i64 ua] 28) = W2 at *
  generalize W1.heap.size = g9 at *
  have x0 := HF2.out.cell 0
  have x1 := HF2.out.cell 1
  have y0 := HX2.out.cell 0
  have y1 := HX2.out.cell 1
  have hfz := HX2.out.frozen 0
  have hfz1 := HX2.out.frozen 1
  have heq := fun W => eqFault uc ua 0 0 W
  by_cases h0 : uc = 0
  · subst h0
    have hcz := clashF_zero (gs := gs) (fs := fs) (k := k) (by rw [Hun.out])
    obtain rfl : ua = 0 := by
      have := hcz.1
      rw [Hun.out] at this
      injection this
    obtain ⟨f, hf, hk0, hk1, hph, hho, hbo⟩ := hcz.2.2
    obtain ⟨n, rfl⟩ : ∃ n : Nat, k = (n : Int) := ⟨k.toNat, by omega⟩
    rw [Int.toNat_natCast] at hf
    have hunf : unitF gs fs = (0, 0) := hcz.2.1.all
    have hnl : n < l := by rw [Hl.out] at hk1; omega
    by_cases hm2 : 2 ≤ m ∧ m ≤ 14
    · obtain ⟨mm, rfl⟩ : ∃ mm : Nat, m = (mm : Int) := ⟨m.toNat, by omega⟩
      have hmm1 : 2 ≤ mm := by omega
      have hmm2 : mm ≤ 14 := by omega
      have HE : Hid (colF gs fs (n : Int) (mm : Int) = (0, 0)) := Lib.hid (by unfold colF; rw [if_neg (by rw [Hun.out]; simp), if_neg (by simpa using hm2)])
      obtain ⟨fb, fo, f', bA, bc, rfl, hfb, hfn, f0, f1, f2, f3, hbs⟩ := FunsAt.one HU.out.funs hnl
      obtain rfl : f = f' := by
        rw [hf] at hfn
        exact Option.some.inj hfn
      have Hbs := Lib.hid hbs
      obtain ⟨nr, hnr⟩ : ∃ nr : Nat, f.regs = (nr : Int) := ⟨f.regs.toNat, by have := hho.p0; have := hho.r0; omega⟩
      have hnr1 : nr ≤ 100 := by have := hho.r1; omega
      have Hok := Lib.hid hcz.2.1
      have Hf := Lib.hid hf
      have Hnr := Lib.hid hnr
      have HBg := Lib.hid (fun W (hB : Below w.heap.size w W) => Begin_any gv _ gs fs n f W hunf hf hph hho hbo (HU.out.later hB))
      rw [hnr, Int.toNat_natCast] at HBg
      have hof : ofF gs fs (n : Int) = ofRows f := by
        unfold ofF
        rw [if_neg (by rw [Hun.out]; simp), Int.toNat_natCast, hf]
      have Hof := Lib.hid hof
      have Hhb := Lib.hid (And.intro hho hbo)
      have hdm : decide (2 ≤ (mm : Int) ∧ (mm : Int) ≤ 14) = true := decide_eq_true hm2
      have HAc := Lib.hid (fun W (hB : Below w.heap.size w W) => Across_any gv _ gs fs (n : Int) W Hk.out (HU.out.later hB))
      have HWe := Lib.hid (fun W (hB : Below w.heap.size w W) => Weights_any gv _ gs fs (n : Int) W Hk.out (HU.out.later hB))
      have hlr : (ofRows f).length = nr := by unfold ofRows; simp [hnr]
      rw [hof] at HV2
      rw [hof, hlr]
      rw [hlr] at HV2
      clear hcz hf hk0 hk1 hph hho hbo hunf hfn hnr hbs hof y0 y1 hfz hfz1
      have c0 := HC2.out.cell 0
      have c1 := HC2.out.cell 1
      have hW := Within_any (mm : Int) 2 14 W2
      rw [hdm] at hW
      have HWi := Lib.hid hW
      clear hW hdm hm2
      go_wp2_with fail
      refine HWi.out.mono ?_
      rintro e w' ⟨rfl, rfl⟩
      go_wp2_with fail
      refine (HAc.out W2 HB2.out).mono ?_
      rintro e W3 ⟨av, rfl, hav, hb3⟩
      rw [Hun.out]
      have hz2 := HB2.out.size
      have HB4 : Hid (Below w.heap.size w (W3.alloc (.cells #[.int .i64 0, .int .i64 0] 28))) := Lib.hid ((HB2.out.trans (hb3.mono hz2)).alloc (Nat.le_trans hz2 hb3.size) _)
      have HC4 := Lib.hid ((HC2.out.below hb3 HC2.out.lt).alloc (.cells #[.int .i64 0, .int .i64 0] 28))
      have HX4 := Lib.hid ((HX2.out.below hb3 HX2.out.lt).alloc (.cells #[.int .i64 0, .int .i64 0] 28))
      have hb4 : Below W2.heap.size W2 (W3.alloc (.cells #[.int .i64 0, .int .i64 0] 28)) := hb3.alloc hb3.size _
      have HV4 := Lib.hid (HV2.out.move hb4.size (kept_of hb4 (Nat.le_refl _)))
      have HA4 := Lib.hid ((hav.below (w' := W3.alloc (.cells #[.int .i64 0, .int .i64 0] 28)) ((Below.refl _ _).alloc (Nat.le_refl _) _) rfl).ints)
      obtain ⟨aA, ac, rfl⟩ := row_form hav
      obtain ⟨al, hal⟩ : ∃ al, (acrossF gs fs (n : Int)).length = al := ⟨_, rfl⟩
      rw [hal] at HA4 ⊢
      clear hal hav hb3 hb4 hz2 HAc HWi HB2 HC2 HX2 HV2 HF2 c0 c1 x0 x1 heq
      go_upto_region 7 with fail
      generalize W3.alloc (.cells #[.int .i64 0, .int .i64 0] 28) = W4 at *
      generalize W3.heap.size = g11 at *
      have c0 := HC4.out.cell 0
      have c1 := HC4.out.cell 1
      go_wp2_with fail
      refine (HWe.out W4 HB4.out).mono ?_
      rintro e W5 ⟨wv, rfl, hwv, hb5⟩
      rw [Hun.out]
      have hz4 := HB4.out.size
      have HB6 : Hid (Below w.heap.size w ((W5.alloc (.cells #[wv] 26)).alloc (.cells #[.int .i64 0, .int .i64 0] 28))) := Lib.hid (((HB4.out.trans (hb5.mono hz4)).alloc (Nat.le_trans hz4 hb5.size) _).alloc (by simp; exact Nat.le_succ_of_le (Nat.le_trans hz4 hb5.size)) _)
      have hb6 : Below W4.heap.size W4 ((W5.alloc (.cells #[wv] 26)).alloc (.cells #[.int .i64 0, .int .i64 0] 28)) := (hb5.alloc hb5.size _).alloc (by simp; exact Nat.le_succ_of_le hb5.size) _
      have hb56 : Below W5.heap.size W5 ((W5.alloc (.cells #[wv] 26)).alloc (.cells #[.int .i64 0, .int .i64 0] 28)) := ((Below.refl _ _).alloc (Nat.le_refl _) _).alloc (by simp) _
      have HC6 := Lib.hid (HC4.out.below hb6 HC4.out.lt)
      have HX6 := Lib.hid (HX4.out.below hb6 HX4.out.lt)
      have HV6 := Lib.hid (HV4.out.move hb6.size (kept_of hb6 (Nat.le_refl _)))
      have HA6 := Lib.hid (HA4.out.move hb6.size (kept_of hb6 (Nat.le_refl _)))
      have HW6 := Lib.hid ((hwv.below hb56 rfl).ints)
      have HBw6 : Hid (Blk ((W5.alloc (.cells #[wv] 26)).alloc (.cells #[.int .i64 0, .int .i64 0] 28)) W5.heap.size 26 #[wv]) := Lib.hid ((Blk.new _ _ _).alloc _)
      obtain ⟨wA, wc, rfl⟩ := row_form hwv
      clear hwv hb5 hb6 hb56 hz4 HWe HB4 HC4 HX4 HV4 HA4 c0 c1
      go_upto_region 8 with fail
      generalize (W5.alloc (.cells #[.slice wA _ wc] 26)).alloc (.cells #[.int .i64 0, .int .i64 0] 28) = W6 at *
      generalize W5.heap.size = bw at *
      have c0 := HC6.out.cell 0
      have c1 := HC6.out.cell 1
      go_wp2_with fail
      refine (HBg.out W6 HB6.out).mono ?_
      rintro e W7 ⟨sv, rfl, hsv, hb7⟩
      have hz6 := HB6.out.size
      have HB7 := Lib.hid (HB6.out.trans (hb7.mono hz6))
      have HC7 := Lib.hid (HC6.out.below hb7 HC6.out.lt)
      have HX7 := Lib.hid (HX6.out.below hb7 HX6.out.lt)
      have HV7 := Lib.hid (HV6.out.move hb7.size (kept_of hb7 (Nat.le_refl _)))
      have HA7 := Lib.hid (HA6.out.move hb7.size (kept_of hb7 (Nat.le_refl _)))
      have HW7 := Lib.hid (HW6.out.move hb7.size (kept_of hb7 (Nat.le_refl _)))
      have HBw7 := Lib.hid (HBw6.out.below hb7 HBw6.out.lt)
      have HS7 := Lib.hid (hsv.ints)
      have f0 := (bcell HB7.out hfb).trans f0
      have f1 := (bcell HB7.out hfb).trans f1
      have f2 := (bcell HB7.out hfb).trans f2
      have f3 := (bcell HB7.out hfb).trans f3
      rw [Hnr.out] at f2
      have HF7 := Lib.hid (And.intro f0 (And.intro f1 (And.intro f2 f3)))
      have HBl7 := Lib.hid (Hbs.out.move (Nat.le_trans HB7.out.size (Nat.le_refl _)) (kept_of HB7.out (Nat.le_refl _)))
      have hfb7 : fb < W7.heap.size := Nat.lt_of_lt_of_le hfb HB7.out.size
      have hn1 : (n : Int) < (l : Int) := by omega
      clear hsv hb7 hz6 HBg HB6 HC6 HX6 HV6 HA6 HW6 HBw6 c0 c1 f0 f1 f2 f3
      go_upto_region 9 with fail
      obtain ⟨pv, hp0, hp1, hp2, hp3, hp4, hp5, hp6, hp7, hp9, hp10, hp8, hp11, hp12, hp13, hp14⟩ : ∃ pv : Nat → Option Value, pv 0 = some (.pointer (some ⟨w.heap.size, 1, none⟩)) ∧ pv 1 = some (.slice (some ⟨fb, fo, none⟩) l c) ∧ pv 2 = some (.int .i64 (n : Int)) ∧ pv 3 = some (.pointer (some ⟨fb, fo + n * 4, none⟩)) ∧
        pv 4 = some (.agg #[.string f.name, .int .i64 f.params, .int .i64 (nr : Int), .slice bA f.blocks.length bc]) ∧ pv 5 = some (.slice vA nr vc) ∧ pv 6 = some (.slice aA al ac) ∧ pv 7 = some (.int .i64 (mm : Int)) ∧ pv 9 = some (.slice vA nr vc) ∧ pv 10 = some (.int .i64 (nr : Int)) ∧ pv 8 = none ∧ pv 11 = none ∧ pv 12 = none ∧ pv 13 = none ∧ pv 14 = none :=
        ⟨pv9 (.pointer (some ⟨w.heap.size, 1, none⟩)) (.slice (some ⟨fb, fo, none⟩) l c) (.int .i64 (n : Int)) (.pointer (some ⟨fb, fo + n * 4, none⟩)) (.agg #[.string f.name, .int .i64 f.params, .int .i64 (nr : Int), .slice bA f.blocks.length bc]) (.slice vA nr vc) (.slice aA al ac) (.int .i64 (mm : Int)) (.int .i64 (nr : Int)), rfl, rfl, rfl, rfl, rfl, rfl, rfl, rfl, rfl, rfl, rfl, rfl, rfl, rfl, rfl⟩
      have P0 := Lib.hid hp0
      have P1 := Lib.hid hp1
      have P2 := Lib.hid hp2
      have P3 := Lib.hid hp3
      have P4 := Lib.hid hp4
      have P5 := Lib.hid hp5
      have P6 := Lib.hid hp6
      have P7 := Lib.hid hp7
      have P9 := Lib.hid hp9
      have P10 := Lib.hid hp10
      have PN := Lib.hid (And.intro hp8 (And.intro hp11 (And.intro hp12 (And.intro hp13 hp14))))
      have HS0 : Hid (MkRun pv W7 nr (givenS mm) (.string f.name) (.int .i64 f.params) (.int .i64 (nr : Int)) (.slice bA f.blocks.length bc) (.slice vA nr vc) (.slice aA al ac) (fun _ => none) { W7 with drawn := W7.drawn + 1 }) := Lib.hid (MkRun.start (below_drew (Below.refl _ _)))
      have hmk := fun W : World => run_make_row' (P := Tryz.prog) 26 3 (.int .i64 0) 8 Tryz.underlying26 infoInt rfl .i64 .i64 nr (by omega) (by omega) W
      have hcl := HC7.out.lt
      clear hp0 hp1 hp2 hp3 hp4 hp5 hp6 hp7 hp8 hp9 hp10 hp11 hp12 hp13 hp14
      refine wp_region_keeps (MkRun pv W7 nr (givenS mm) (.string f.name) (.int .i64 f.params) (.int .i64 (nr : Int)) (.slice bA f.blocks.length bc) (.slice vA nr vc) (.slice aA al ac)) (by kernel_rfl) (by kernel_rfl) HS0.out ?_ ?_
      · refine ⟨⟨rfl, ?_⟩, ⟨rfl, ?_⟩, ⟨rfl, ?_⟩, ⟨rfl, ?_⟩, ⟨rfl, ?_⟩, ⟨rfl, ?_⟩, ⟨rfl, ?_⟩, ⟨rfl, ?_⟩, ⟨rfl, ?_⟩, ⟨rfl, ?_⟩, ⟨rfl, ?_⟩, ⟨rfl, ?_⟩, ⟨rfl, ?_⟩, ⟨rfl, ?_⟩, ⟨rfl, ?_⟩, trivial⟩
        all_goals
          intro σ vs w' hvs hcl' hC hk hdep
          simp only [putO, Act.put, List.setIfInBounds_toArray, List.set_cons_succ, List.set_cons_zero, Nat.reduceAdd]
          have HC := Lib.hid hC
          have HD := Lib.hid hdep
          have HL := Lib.hid hcl'
          have HS := Lib.hid hk
          clear hC hdep hcl' hk hvs
        · go_simp
          exact HC.out.say P0.out (by decide)
        · rw [HC.out.val (HD.out ⟨0, .data⟩ (by simp) rfl) P0.out]
          have c1 := (HC7.out.below HC.out.below hcl).cell 1
          go_simp
          exact HC.out.say P1.out (by decide)
        · go_simp
          exact HC.out.say P2.out (by decide)
        · rw [HC.out.val (HD.out ⟨1, .data⟩ (by simp) rfl) P1.out, HC.out.val (HD.out ⟨2, .data⟩ (by simp) rfl) P2.out]
          go_simp
          exact HC.out.say P3.out (by decide)
        · rw [HC.out.val (HD.out ⟨3, .data⟩ (by simp) rfl) P3.out]
          have f0 := (bcell HC.out.below hfb7).trans HF7.out.1
          have f1 := (bcell HC.out.below hfb7).trans HF7.out.2.1
          have f2 := (bcell HC.out.below hfb7).trans HF7.out.2.2.1
          have f3 := (bcell HC.out.below hfb7).trans HF7.out.2.2.2
          go_simp
          exact HC.out.say P4.out (by decide)
        · go_simp
          exact HC.out.say P5.out (by decide)
        · go_simp
          exact HC.out.say P6.out (by decide)
        · go_simp
          exact HC.out.say P7.out (by decide)
        · rw [HC.out.val (HD.out ⟨7, .data⟩ (by simp) rfl) P7.out]
          go_simp
          refine (Given_any mm w' hmm1 hmm2).mono ?_
          rintro e w2 ⟨u, rfl, hu, hb⟩
          have n12 := not_done HL.out HS.out (j := 12) rfl rfl
          exact ⟨u, rfl, HC.out.call PN.out.1 n12 (not_done HL.out n12 (j := 13) rfl rfl) hb hu⟩
        · go_simp
          exact HC.out.say P9.out (by decide)
        · rw [HC.out.val (HD.out ⟨9, .data⟩ (by simp) rfl) P9.out]
          go_simp
          exact HC.out.say P10.out (by decide)
        · rw [HC.out.val (HD.out ⟨10, .data⟩ (by simp) rfl) P10.out]
          have n12 := not_done HL.out HS.out (j := 12) rfl rfl
          have HH := Lib.hid (HC.out.make PN.out.2.1 n12 (not_done HL.out n12 (j := 13) rfl rfl))
          clear n12
          go_simp
          exact HH.out
        · rw [HC.out.val (HD.out ⟨4, .data⟩ (by simp) rfl) P4.out, HC.out.val (HD.out ⟨5, .data⟩ (by simp) rfl) P5.out, HC.out.val (HD.out ⟨6, .data⟩ (by simp) rfl) P6.out]
          have h8 := HD.out ⟨8, .data⟩ (by simp) rfl
          have h11 := HD.out ⟨11, .data⟩ (by simp) rfl
          obtain ⟨A8, c8, e8⟩ := row_form (HC.out.giv _ h8)
          obtain ⟨g11, e11, _⟩ := HC.out.made _ h11
          have hh := HC.out.build PN.out.2.2.1 h8 h11
          rw [e8, e11] at hh
          rw [show vs 8 = _ from e8, show vs 11 = _ from e11]
          have HH := Lib.hid hh
          clear h8 h11 e8 e11 hh
          go_simp
          exact HH.out
        · obtain ⟨g8, g11, e8, e11, e12⟩ := HC.out.built _ (HD.out ⟨12, .data⟩ (by simp) rfl)
          rw [show vs 12 = _ from e12]
          have HH := Lib.hid (HC.out.box PN.out.2.2.2.1 (not_done HL.out HS.out (j := 14) rfl rfl) e8 e11)
          clear e8 e11 e12
          go_simp
          exact HH.out
        · have HH := Lib.hid (HC.out.end_ PN.out.2.2.2.2 (HD.out ⟨13, .data⟩ (by simp) rfl))
          go_simp
          exact HH.out
      intro σ vs W9 hC hall
      obtain ⟨bp, gp, e14, hbp, hgv, hfar, hpl, hlow, hb9⟩ := hC.done (hall 8 (by decide)) (hall 11 (by decide)) (hall 14 (by decide))
      simp only [putO, Act.put, List.setIfInBounds_toArray, List.set_cons_succ, List.set_cons_zero, Nat.reduceAdd]
      rw [show vs 14 = _ from e14]
      have HPN : Hid (PNow W7.heap.size W9 bp gp f (.slice bA f.blocks.length bc) (.slice vA nr vc) (.slice aA al ac) (vs 8) (ofRows f) (acrossF gs fs (n : Int)) (givenS mm) (List.replicate nr 0)) := Lib.hid (by
        have hk := kept_of hb9 (Nat.le_refl W7.heap.size)
        refine ⟨?_, HBl7.out.move (Nat.le_refl _) hk, HV7.out.move (Nat.le_refl _) hk, HA7.out.move (Nat.le_refl _) hk, hgv, hfar, hpl, hlow⟩
        rw [Hnr.out, List.length_replicate]
        exact hbp)
      have hz7 := HB7.out.size
      have HB9 := Lib.hid (HB7.out.trans (hb9.mono hz7))
      have HX9 := Lib.hid (HX7.out.below hb9 HX7.out.lt)
      have HBw9 := Lib.hid (HBw7.out.below hb9 HBw7.out.lt)
      have HW9 := Lib.hid (HW7.out.move (Nat.le_refl _) (kept_of hb9 (Nat.le_refl _)))
      have HS9 := Lib.hid (HS7.out.move (Nat.le_refl _) (kept_of hb9 (Nat.le_refl _)))
      have Hxl := Lib.hid HX7.out.lt
      have Hbl := Lib.hid HBw7.out.lt
      have Hz7 := Lib.hid hz7
      generalize vs 8 = gv9 at *
      generalize vs 0 = s0 at *
      generalize vs 1 = s1 at *
      generalize vs 2 = s2 at *
      generalize vs 3 = s3 at *
      generalize vs 4 = s4 at *
      generalize vs 5 = s5 at *
      generalize vs 6 = s6 at *
      generalize vs 7 = s7 at *
      generalize vs 9 = s9 at *
      generalize vs 10 = s10 at *
      generalize vs 11 = s11 at *
      generalize vs 12 = s12 at *
      generalize vs 13 = s13 at *
      clear hC hall e14 hbp hgv hfar hpl hlow hb9 hz7 HS0 P0 P1 P2 P3 P4 P5 P6 P7 P9 P10 PN HB7 HC7 HX7 HV7 HA7 HW7 HBw7 HS7 HF7 HBl7 hmk hcl hfb7 hn1 HU Hbs
      have HP2 : Hid (∀ v ps W', OwnInts W' w.heap.size v ps → Below w.heap.size w W' → Coloured f (ofRows f) (acrossF gs fs (n : Int)) (givenS mm) (weightsF gs fs (n : Int)) (listS nr (inU f.blocks 0)) nr ps → PE (.returned (.tuple #[v, .agg #[.int .i64 0, .int .i64 0]])) W') := Lib.hid (fun v ps W' h1 h2 h3 => HP.out _ _ ⟨v, ps, by rw [HE.out], h1, h2, fun h => absurd (by rw [HE.out]) h, fun _ f' hf' => by
        rw [Int.toNat_natCast] at hf'
        obtain rfl : f = f' := by rw [Hf.out] at hf'; exact Option.some.inj hf'
        rw [Int.toNat_natCast, Hof.out, Hnr.out, Int.toNat_natCast]
        exact h3⟩)
      have hwl : (weightsF gs fs (n : Int)).length = nr := by
        unfold weightsF
        rw [if_neg (by rw [Hun.out]; simp), Int.toNat_natCast, Hf.out]
        show (tally f.regs.toNat _).length = nr
        rw [tally_len, Hnr.out, Int.toNat_natCast]
      rw [hwl] at HBw9 HW9
      have Hrl : Hid (∀ r : Nat, r < nr → ∃ row, (ofRows f)[r]? = some row ∧ row.length ≤ 1000) := Lib.hid (fun r hr => by
        refine ⟨listS nr (ofS f.blocks (r : Int)), ?_, Nat.le_trans (listS_len _ _) (by omega)⟩
        unfold ofRows
        rw [List.getElem?_map, Hnr.out, Int.toNat_natCast, List.getElem?_range hr]
        rfl)
      have Hrow : Hid (∀ ps : List Int, ps.length = nr → PaintOk (ofRows f) ps) := Lib.hid (fun ps hp => by
        refine ⟨by rw [hp]; unfold ofRows; simp [Hnr.out], by omega, fun row hrow o ho => ?_⟩
        unfold ofRows at hrow
        obtain ⟨a, ha, rfl⟩ := List.mem_map.1 hrow
        rw [listS_mem, Hnr.out, Int.toNat_natCast] at ho
        rw [hp]
        exact ⟨ho.1, ho.2.1⟩)
      have Hwish : Hid (∀ ps : List Int, ps.length = nr → WishOk f.blocks ps) := Lib.hid (fun ps hp => wish_ok Hok.out Hf.out Hnr.out hp)
      generalize acrossF gs fs (n : Int) = acr at *
      generalize weightsF gs fs (n : Int) = ws at *
      generalize listS nr (inU f.blocks 0) = bg at *
      generalize ofRows f = rows at *
      have Hwl := Lib.hid hwl
      obtain ⟨B7, hB7⟩ : ∃ B7, W7.heap.size = B7 := ⟨_, rfl⟩
      obtain ⟨B9, hB9⟩ : ∃ B9, W9.heap.size = B9 := ⟨_, rfl⟩
      have HLo : Hid ((bp < B9 ∧ gp < B9) ∧ (B7 ≤ bp ∧ B7 ≤ gp) ∧ (B7 ≤ B9 ∧ w.heap.size ≤ B7) ∧ (g1 < B7 ∧ bw < B7) ∧ ∀ k, gv9.ownBlock = some k → k < B9) := Lib.hid (by
        have h1 := HPN.out.blk.lt
        have h2 := HPN.out.pl.lt
        have h3 := HPN.out.low
        have h4 := Hxl.out
        have h5 := Hbl.out
        have h6 := Hz7.out
        rw [hB7] at h3 h4 h5 h6
        rw [hB9] at h1 h2
        exact ⟨⟨h1, h2⟩, ⟨h3.2, h3.1⟩, ⟨by omega, h6⟩, ⟨h4, h5⟩, fun k hk => hB9 ▸ own_block_lt HPN.out.giv hk⟩)
      have HWc : Hid (∀ (j : Nat) (x : Int), ws[j]? = some x → ∃ b off, wA = some ⟨b, off, none⟩ ∧ b < B7 ∧ W9.cell? ⟨b, off + j, none⟩ = some (.int .i64 x)) := Lib.hid (by
        obtain ⟨A', c', e, _, _, hcell⟩ := HW9.out
        obtain rfl : A' = wA := ((Value.slice.inj e).1).symm
        intro j x hx
        obtain ⟨b, off, e1, e2, e3⟩ := hcell (by have := (List.getElem?_eq_some_iff.1 hx).1; omega)
        exact ⟨b, off, e1, hB7 ▸ e2, e3 j x hx⟩)
      rw [hB7] at HPN HW9 HS9
      have HLb := Lib.hid hB9
      clear hwl hB7 hB9 Hxl Hbl Hz7 HP HE Hf Hof Hok Hhb Hun
      have b7 : W9.cell? ⟨bp, 7, none⟩ = some (.slice (some ⟨gp, 0, none⟩) nr nr) := by
        have := HPN.out.blk.cell 7
        rw [List.length_replicate] at this
        exact this
      go_upto_region 12 with fail
      clear b7
      go_loopg [16, 70] nr (fun gk uv iv wr => ∃ (j : Nat) (ov : Value), j + gk = nr ∧ iv = .int .i64 (j : Int) ∧ ov = uv ∧ Hid (PNow B7 wr bp gp f (.slice bA f.blocks.length bc) (.slice vA nr vc) (.slice aA al ac) gv9 rows acr (givenS mm) (List.replicate j (-1) ++ List.replicate (nr - j) 0)) ∧ Hid (OwnInts wr B9 ov (presentL ws bg j)) ∧ Hid (BelowBut gp B9 W9 wr))
      case atStart => exact ⟨0, _, by omega, rfl, rfl, HPN, Lib.hid (OwnInts.nil _ _), Lib.hid (BelowBut.refl _ _ _)⟩
      case round =>
        obtain ⟨j, ov, hj, rfl, rfl, HPj, HOj, HBj⟩ := hrel
        have hz9 := HBj.out.size
        rw [HLb.out] at hz9
        rcases gk with _ | mk
        · have hjn : nr = j := by omega
          subst hjn
          have hjt : ¬ (nr : Int) < (nr : Int) := by omega
          have HPn : Hid (PNow B7 wr bp gp f (.slice bA f.blocks.length bc) (.slice vA nr vc) (.slice aA al ac) gv9 rows acr (givenS mm) (List.replicate nr (-1))) := Lib.hid (by
            have h := HPj.out
            rw [Nat.sub_self, List.replicate_zero, List.append_nil] at h
            exact h)
          have HIw : Hid (IntsAt wr B7 (.slice wA nr wc) ws) := Lib.hid (HW9.out.move (Nat.le_refl _) (HBj.out.kept HLo.out.2.2.1.1 HLo.out.2.1.2))
          have HBwr : Hid (Blk wr bw 26 #[.slice wA nr wc]) := Lib.hid (HBj.out.blk HBw9.out (by have := HLo.out; omega) (by have := HLo.out; omega))
          have hpl := presentL_len ws bg nr
          have HSo := Lib.hid (SortOwn_any wr B9 ov (presentL ws bg nr) 16 #[.pointer (some ⟨bw, 0, none⟩)] (fun x y => cmpI (ws.getD y.toNat 0) (ws.getD x.toNat 0)) (by omega)
            (fun a W => MuLone.run_callFunc_enter Tryz.func16 (by kernel_rfl) rfl a W)
            (fun g hg x y W hx hy hb => Order_any bw (.slice wA nr wc) ws x y W (hb.blk HBwr.out HBwr.out.lt (by have := HLo.out; omega)) (HIw.out.move (by have := hb.size; have := HLo.out; omega) (hb.kept (by have := HLo.out; omega) (by have := HLo.out; omega))) (by rw [Hwl.out]; exact (presentL_mem.1 hx).1) (by rw [Hwl.out]; exact (presentL_mem.1 hy).1)) (fun x => ws.getD x.toNat 0) (fun x y => cmpI_neg _ _) (presentL_asc ws bg nr) HOj.out hz9)
          clear hpl HPj HOj HW9 HWc
          go_wp2_with fail
          refine HSo.out.mono ?_
          rintro e W11 ⟨rfl, ys, gq, hgq, hpm, hys, hbs⟩
          have HP11 := Lib.hid (HPn.out.stay hbs (by have := HLo.out; omega) (by have := HLo.out; omega) (by have := HLo.out; omega) (by have := HLo.out; omega) (fun k hk => by have := HLo.out.2.2.2.2 k hk; omega))
          have HB11 : Hid (BelowBut gp B9 W9 W11) := Lib.hid (HBj.out.trans (but_of (hbs.below hz9 hgq)))
          have HPm := Lib.hid hpm
          obtain ⟨oA, oc, rfl⟩ := row_form hys
          obtain ⟨ol, hol⟩ : ∃ ol, ys.length = ol := ⟨_, rfl⟩
          have hol1 : ol ≤ 100 := by
            have h1 := hpm.1.length_eq
            have h2 := presentL_len ws bg nr
            omega
          rw [hol] at hys ⊢
          have HO11 := Lib.hid hys
          have Hol := Lib.hid hol
          have Hyr : Hid (∀ y ∈ ys, 0 ≤ y ∧ y < (nr : Int)) := Lib.hid (fun y hy => (presentL_mem.1 (hpm.1.mem_iff.1 hy)).1)
          clear hgq hpm hys hbs hol HPn HIw HBwr HSo HBj hz9 hjt hj
          go_upto_region 20 with fail
          go_loopg [99] ol (fun gk iv wq => ∃ q : Nat, q + gk = ol ∧ iv = .int .i64 (q : Int) ∧ Hid (PNow B7 wq bp gp f (.slice bA f.blocks.length bc) (.slice vA nr vc) (.slice aA al ac) gv9 rows acr (givenS mm) (colS (fun ps r => wishesL f (givenS mm) ps r) rows acr (givenS mm) (List.replicate nr (-1)) (ys.take q))) ∧ Hid (OwnInts wq B9 (.slice oA ol oc) ys) ∧ Hid (BelowBut gp B9 W9 wq))
          case atStart => exact ⟨0, by omega, rfl, by rw [List.take_zero, colS_nil]; exact HP11, HO11, HB11⟩
          case round =>
            obtain ⟨q, hq, rfl, HPq, HOq, HBq⟩ := hrel
            clear HP11 HO11 HB11
            have hzq := HBq.out.size
            rw [HLb.out] at hzq
            obtain ⟨ps, hps⟩ : ∃ ps, colS (fun ps r => wishesL f (givenS mm) ps r) rows acr (givenS mm) (List.replicate nr (-1)) (ys.take q) = ps := ⟨_, rfl⟩
            have hpl : ps.length = nr := by rw [← hps, colS_len, List.length_replicate]
            rw [hps] at HPq
            have Hps := Lib.hid hps
            have Hpl := Lib.hid hpl
            have b7 : wr.cell? ⟨bp, 7, none⟩ = some (.slice (some ⟨gp, 0, none⟩) nr nr) := by
              have := HPq.out.blk.cell 7
              rw [hpl] at this
              exact this
            clear hps hpl
            rcases gk with _ | mk
            · have hqo : ol = q := by omega
              subst hqo
              have hqt : ¬ (ol : Int) < (ol : Int) := by omega
              have HXq := Lib.hid (HBq.out.blk HX9.out (by have := HLo.out; omega) (by have := HLo.out; omega))
              have y0 := HXq.out.cell 0
              have y1 := HXq.out.cell 1
              have hfz := HXq.out.frozen 0
              have hfz1 := HXq.out.frozen 1
              go_wp2_with fail
              refine end_tmp_cell rfl rfl (HXq.out.set2 (.int .i64 0) (.int .i64 0)) Tryz.underlying28 rfl (by kernel_rfl) rfl (HP2.out _ ps _ ?_ ?_ ?_)
              · have h := own_of_blk (base := w.heap.size) ((HPq.out.pl.far (p := ⟨g1, 0, none⟩) (show gp ≠ g1 by have := HLo.out; omega) (.int .i64 0)).far (p := ⟨g1, 1, none⟩) (show gp ≠ g1 by have := HLo.out; omega) (.int .i64 0)) (by have := HLo.out; omega) (by rw [Hpl.out]; omega)
                rw [Hpl.out] at h
                exact h
              · exact ((HB9.out.trans (HBq.out.below (by have := HLo.out; omega) (by have := HLo.out; omega))).setCell Hlg.out _).setCell Hlg.out _
              · refine ⟨ys, HPm.out, ?_⟩
                rw [← Hps.out, ← Hol.out, List.take_length]
            · have hqt : (q : Int) < (ol : Int) := by omega
              have hq0 : (0 : Int) ≤ (q : Int) := Int.natCast_nonneg q
              obtain ⟨y, hy⟩ : ∃ y, ys[q]? = some y := ⟨ys[q]'(by rw [Hol.out]; omega), List.getElem?_eq_getElem _⟩
              obtain ⟨hy0, hy1⟩ := Hyr.out y (List.mem_of_getElem? hy)
              obtain ⟨r, rfl⟩ : ∃ r : Nat, y = (r : Int) := ⟨y.toNat, by omega⟩
              have hrn : r < nr := by omega
              obtain ⟨A', c', e', _, _, hcell⟩ := HOq.out.ints
              obtain ⟨ob, oo, e2, _, hoc⟩ := hcell (by rw [Hol.out]; omega)
              have e3 := (Value.slice.inj e').1
              rw [e2] at e3
              subst e3
              have hoc := hoc q _ hy
              obtain ⟨row, hrow, hrl⟩ := Hrl.out r hrn
              have HPa := Lib.hid (fun W (hb : Below wr.heap.size wr W) => Paint_any bp gp f (.slice bA f.blocks.length bc) (.slice vA nr vc) (.slice aA al ac) gv9 rows acr (givenS mm) ps r row W (HPq.out.paint.below hb) (Hrow.out ps Hpl.out) hrow hrl (Hwish.out ps Hpl.out))
              obtain ⟨pv, hpv⟩ : ∃ pv, paintS row acr (givenS mm) ps (r : Int) (wishesL f (givenS mm) ps (r : Int)) = pv := ⟨_, rfl⟩
              rw [hpv] at HPa
              have Hnx : Hid (colS (fun ps r => wishesL f (givenS mm) ps r) rows acr (givenS mm) (List.replicate nr (-1)) (ys.take (q + 1)) = ps.set r pv) := Lib.hid (by
                rw [List.take_succ_eq_append_getElem (by rw [Hol.out]; omega), colS_snoc, Hps.out, (List.getElem?_eq_some_iff.1 hy).2, Int.toNat_natCast, ← hpv]
                congr 1
                rw [List.getD_eq_getElem?_getD, hrow]
                rfl)
              clear hy hrow hrl hpv e' hcell e2
              go_upto_region 22 with fail
              obtain ⟨pw, hp0, hp1, hp2, hp3, hp4, hp5, hp6, hp7, hp8, hp9⟩ : ∃ pw : Nat → Option Value, pw 0 = some (.pointer (some ⟨bp, 0, none⟩)) ∧ pw 1 = some (.pointer (some ⟨bp, 0, none⟩)) ∧ pw 2 = some (.pointer (some ⟨bp, 7, none⟩)) ∧ pw 3 = some (.slice (some ⟨gp, 0, none⟩) nr nr) ∧ pw 4 = some (.int .i64 (r : Int)) ∧
                pw 5 = some (.pointer (some ⟨bp, 0, none⟩)) ∧ pw 6 = some (.int .i64 (r : Int)) ∧ pw 7 = some (.int .i64 pv) ∧ pw 8 = some (.pointer (some ⟨gp, r, none⟩)) ∧ pw 9 = none :=
                ⟨pvP (.pointer (some ⟨bp, 0, none⟩)) (.pointer (some ⟨bp, 7, none⟩)) (.slice (some ⟨gp, 0, none⟩) nr nr) (.int .i64 (r : Int)) (.int .i64 (r : Int)) (.int .i64 pv) (.pointer (some ⟨gp, r, none⟩)), rfl, rfl, rfl, rfl, rfl, rfl, rfl, rfl, rfl, rfl⟩
              have P0 := Lib.hid hp0
              have P1 := Lib.hid hp1
              have P2 := Lib.hid hp2
              have P3 := Lib.hid hp3
              have P4 := Lib.hid hp4
              have P5 := Lib.hid hp5
              have P6 := Lib.hid hp6
              have P7 := Lib.hid hp7
              have P8 := Lib.hid hp8
              have P9 := Lib.hid hp9
              have HS0 : Hid (PutRun pw wr 9 ⟨gp, r, none⟩ (.int .i64 pv) (fun _ => none) { wr with drawn := wr.drawn + 1 }) := Lib.hid (PutRun.start (below_drew (Below.refl _ _)))
              have hr0 : (0 : Int) ≤ (r : Int) := Int.natCast_nonneg r
              have hr1 : (r : Int) < (nr : Int) := by omega
              have hbl := HPq.out.blk.lt
              obtain ⟨z, hz⟩ : ∃ z, ps[r]? = some z := ⟨ps[r]'(by rw [Hpl.out]; exact hrn), List.getElem?_eq_getElem _⟩
              have Hz := Lib.hid hz
              clear hp0 hp1 hp2 hp3 hp4 hp5 hp6 hp7 hp8 hp9 hz
              refine wp_region_keeps (PutRun pw wr 9 ⟨gp, r, none⟩ (.int .i64 pv)) (by kernel_rfl) (by kernel_rfl) HS0.out ?_ ?_
              · refine ⟨⟨rfl, ?_⟩, ⟨rfl, ?_⟩, ⟨rfl, ?_⟩, ⟨rfl, ?_⟩, ⟨rfl, ?_⟩, ⟨rfl, ?_⟩, ⟨rfl, ?_⟩, ⟨rfl, ?_⟩, ⟨rfl, ?_⟩, ⟨rfl, ?_⟩, trivial⟩
                all_goals
                  intro σ vs w' hvs hcl' hC hk hdep
                  simp only [putO, Act.put, List.setIfInBounds_toArray, List.set_cons_succ, List.set_cons_zero, Nat.reduceAdd]
                  have HC := Lib.hid hC
                  have HD := Lib.hid hdep
                  have HL := Lib.hid hcl'
                  have HS := Lib.hid hk
                  clear hC hdep hcl' hk hvs
                · go_simp
                  exact HC.out.say (not_done HL.out HS.out (j := 9) rfl rfl) P0.out (by decide) (Below.refl _ _)
                · rw [HC.out.val (HD.out ⟨0, .data⟩ (by simp) rfl) P0.out]
                  go_simp
                  exact HC.out.say (not_done HL.out HS.out (j := 9) rfl rfl) P1.out (by decide) (Below.refl _ _)
                · rw [HC.out.val (HD.out ⟨1, .data⟩ (by simp) rfl) P1.out]
                  go_simp
                  exact HC.out.say (not_done HL.out HS.out (j := 9) rfl rfl) P2.out (by decide) (Below.refl _ _)
                · rw [HC.out.val (HD.out ⟨2, .data⟩ (by simp) rfl) P2.out]
                  have n9 := not_done HL.out HS.out (j := 9) rfl rfl
                  have b7 := (bcell (HC.out.low n9) hbl).trans b7
                  go_simp
                  exact HC.out.say n9 P3.out (by decide) (Below.refl _ _)
                · go_simp
                  exact HC.out.say (not_done HL.out HS.out (j := 9) rfl rfl) P4.out (by decide) (Below.refl _ _)
                · go_simp
                  exact HC.out.say (not_done HL.out HS.out (j := 9) rfl rfl) P5.out (by decide) (Below.refl _ _)
                · go_simp
                  exact HC.out.say (not_done HL.out HS.out (j := 9) rfl rfl) P6.out (by decide) (Below.refl _ _)
                · rw [HC.out.val (HD.out ⟨5, .data⟩ (by simp) rfl) P5.out, HC.out.val (HD.out ⟨6, .data⟩ (by simp) rfl) P6.out]
                  have n9 := not_done HL.out HS.out (j := 9) rfl rfl
                  have HCa := Lib.hid (HPa.out w' (HC.out.low n9))
                  go_simp
                  refine HCa.out.mono ?_
                  rintro e w2 ⟨rfl, hb⟩
                  exact ⟨_, rfl, HC.out.say n9 P7.out (by decide) hb⟩
                · rw [HC.out.val (HD.out ⟨3, .data⟩ (by simp) rfl) P3.out, HC.out.val (HD.out ⟨4, .data⟩ (by simp) rfl) P4.out]
                  have n9 := not_done HL.out HS.out (j := 9) rfl rfl
                  go_simp
                  exact HC.out.say n9 P8.out (by decide) (Below.refl _ _)
                · rw [HC.out.val (HD.out ⟨8, .data⟩ (by simp) rfl) P8.out, HC.out.val (HD.out ⟨7, .data⟩ (by simp) rfl) P7.out]
                  have hpl' := HPq.out.pl.below (HC.out.low HS.out) HPq.out.pl.lt
                  have z0 := (hpl'.cell r).trans (intsC_at Hz.out)
                  have hfz := hpl'.frozen r
                  have HH := Lib.hid (HC.out.put HS.out P9.out undef)
                  clear hpl'
                  go_simp
                  exact HH.out
              intro σ vs w9 hC hall
              obtain ⟨w1, hb1, rfl⟩ := hC.done (hall 9 (by decide))
              simp only [putO, Act.put, List.setIfInBounds_toArray, List.set_cons_succ, List.set_cons_zero, Nat.reduceAdd]
              have HPx : Hid (PNow B7 (w1.setCell ⟨gp, r, none⟩ (.int .i64 pv)) bp gp f (.slice bA f.blocks.length bc) (.slice vA nr vc) (.slice aA al ac) gv9 rows acr (givenS mm) (colS (fun ps r => wishesL f (givenS mm) ps r) rows acr (givenS mm) (List.replicate nr (-1)) (ys.take (q + 1)))) := Lib.hid (by
                rw [Hnx.out]
                exact (HPq.out.below hb1).put r pv)
              have HOx : Hid (OwnInts (w1.setCell ⟨gp, r, none⟩ (.int .i64 pv)) B9 (.slice (some ⟨ob, oo, none⟩) ol oc) ys) := Lib.hid ((HOq.out.below hb1 rfl).set HLo.out.1.2 _)
              have HBx : Hid (BelowBut gp B9 W9 (w1.setCell ⟨gp, r, none⟩ (.int .i64 pv))) := Lib.hid ((HBq.out.trans (but_of (hb1.mono hzq))).trans (BelowBut.set _ _ _ _ _))
              generalize w1.setCell ⟨gp, r, none⟩ (.int .i64 pv) = w5 at *
              generalize vs 0 = s'0 at *
              generalize vs 1 = s'1 at *
              generalize vs 2 = s'2 at *
              generalize vs 3 = s'3 at *
              generalize vs 4 = s'4 at *
              generalize vs 5 = s'5 at *
              generalize vs 6 = s'6 at *
              generalize vs 7 = s'7 at *
              generalize vs 8 = s'8 at *
              clear hC hall hb1 HS0 P0 P1 P2 P3 P4 P5 P6 P7 P8 P9
              go_wp2_with fail
              go_roundg mk
              case measure => omega
              case rel => exact ⟨q + 1, by omega, by go_num, HPx, HOx, HBx⟩
        · have hjt : (j : Int) < (nr : Int) := by omega
          have hj0 : (0 : Int) ≤ (j : Int) := Int.natCast_nonneg j
          have hll : (List.replicate j (-1 : Int) ++ List.replicate (nr - j) 0).length = nr := by
            rw [List.length_append, List.length_replicate, List.length_replicate]
            omega
          have b7 : wr.cell? ⟨bp, 7, none⟩ = some (.slice (some ⟨gp, 0, none⟩) nr nr) := by
            have := HPj.out.blk.cell 7
            rw [hll] at this
            exact this
          have p0 := (HPj.out.pl.cell j).trans (intsC_at (x := 0) (by rw [List.getElem?_append_right (by simp), List.length_replicate, Nat.sub_self, List.getElem?_replicate, if_pos (by omega)]))
          have hfz := HPj.out.pl.frozen j
          have HP1 : Hid (PNow B7 (wr.setCell ⟨gp, j, none⟩ (.int .i64 (-1))) bp gp f (.slice bA f.blocks.length bc) (.slice vA nr vc) (.slice aA al ac) gv9 rows acr (givenS mm) (List.replicate (j + 1) (-1) ++ List.replicate (nr - (j + 1)) 0)) := Lib.hid (by
            have h := HPj.out.put j (-1)
            have e : (List.replicate j (-1 : Int) ++ List.replicate (nr - j) 0).set j (-1) = List.replicate (j + 1) (-1) ++ List.replicate (nr - (j + 1)) 0 := by
              have h2 := set_mid (List.replicate j (-1 : Int)) (nr - j) 0 (-1) (by omega)
              rw [List.length_replicate] at h2
              rw [h2, List.replicate_succ', show nr - j - 1 = nr - (j + 1) by omega]
            rw [e] at h
            exact h)
          have HO1 : Hid (OwnInts (wr.setCell ⟨gp, j, none⟩ (.int .i64 (-1))) B9 ov (presentL ws bg j)) := Lib.hid (HOj.out.set HLo.out.1.2 _)
          have HB1 : Hid (BelowBut gp B9 W9 (wr.setCell ⟨gp, j, none⟩ (.int .i64 (-1)))) := Lib.hid (HBj.out.trans (BelowBut.set _ _ _ _ _))
          have hz1 : B9 ≤ (wr.setCell ⟨gp, j, none⟩ (.int .i64 (-1))).heap.size := by simp; exact hz9
          clear hll HPj HOj HBj hz9
          go_upto_region 15 with fail
          generalize wr.setCell ⟨gp, j, none⟩ (.int .i64 (-1)) = W1 at *
          clear b7 p0 hfz
          obtain ⟨x, hx⟩ : ∃ x, ws[j]? = some x := ⟨ws[j]'(by rw [Hwl.out]; omega), List.getElem?_eq_getElem _⟩
          obtain ⟨wb, wo, rfl, hwb, hwc⟩ := HWc.out j x hx
          have hwc1 := (HB1.out.cell (k := wb) (o := wo + j) (by have := HLo.out; omega) (by have := HLo.out; omega)).trans hwc
          have bw0 := (HB1.out.blk HBw9.out (by have := HLo.out; omega) (by have := HLo.out; omega)).cell 0
          have hgd : ws.getD ((j : Nat) : Int).toNat 0 = x := by
            rw [Int.toNat_natCast, List.getD_eq_getElem?_getD, hx]
            rfl
          have Hgd := Lib.hid hgd
          have hpl := Nat.le_trans (presentL_len ws bg j) (show j ≤ 100 by omega)
          clear hx hwc hgd hwb
          have HOk : ∀ v4 w4, Hid (Appended W1 B9 3 1 ov ((presentL ws bg j).length + 1) ((presentL ws bg j).map (Value.int .i64) ++ [.int .i64 (j : Int)]) (W1.heap.size + 1) v4 w4) → presentB ws bg (j : Int) = true →
              Hid (OwnInts w4 B9 v4 (presentL ws bg (j + 1))) ∧ Hid (BelowBut gp B9 W9 w4) := fun v4 w4 HA hp => by
            refine ⟨Lib.hid ?_, Lib.hid (HB1.out.trans (but_of HA.out.below))⟩
            rw [presentL_succ, if_pos hp]
            exact own_snoc HA.out
          by_cases hx0 : x > 0
          · have hp : presentB ws bg (j : Int) = true := by
              unfold presentB
              rw [Hgd.out, decide_eq_true (show 0 < x from hx0)]
              rfl
            have HPr := Lib.hid hp
            clear hp
            go_wp2_with (at_builtin; refine app_one rfl _ _ 26 3 rfl (.int .i64 0) 1 8 Tryz.underlying26 infoInt rfl (by decide) (by decide) B9 _ _ _ (by rfl) HO1.out _ [.int .i64 (j : Int)] (by rfl) rfl (fun x hx => by simp at hx; subst hx; rfl) rfl (by omega) hz1 ?_; intro v4 w4 HA4)
            have HR := HOk v4 w4 HA4 HPr.out
            have HP4 := Lib.hid (HP1.out.stay (g := B9) (but_of HA4.out.below) HLo.out.2.2.1.1 HLo.out.2.2.1.1 ⟨HLo.out.1.1, by have := HLo.out; omega⟩ ⟨HLo.out.1.2, by have := HLo.out; omega⟩ (fun k hk => ⟨HLo.out.2.2.2.2 k hk, by have := HLo.out.2.2.2.2 k hk; omega⟩))
            go_roundg mk
            case measure => omega
            case rel => exact ⟨j + 1, _, by omega, by go_num, rfl, HP4, HR.1, HR.2⟩
          · have HCo := Lib.hid (HasI_any sv bg (j : Int) W1 (HS9.out.move (Nat.le_trans HLo.out.2.2.1.1 hz1) (HB1.out.kept HLo.out.2.2.1.1 HLo.out.2.1.2)))
            go_wp2_with fail
            refine HCo.out.mono ?_
            rintro e w' ⟨rfl, rfl⟩
            have hpe : presentB ws bg (j : Int) = hasN bg (j : Int) := by
              unfold presentB
              rw [Hgd.out, decide_eq_false (show ¬ 0 < x by omega)]
              rfl
            cases hb : hasN bg (j : Int) with
            | true =>
              have hp := hpe.trans hb
              clear hpe hb HCo
              have HPr := Lib.hid hp
              clear hp
              go_wp2_with (at_builtin; refine app_one rfl _ _ 26 3 rfl (.int .i64 0) 1 8 Tryz.underlying26 infoInt rfl (by decide) (by decide) B9 _ _ _ (by rfl) HO1.out _ [.int .i64 (j : Int)] (by rfl) rfl (fun x hx => by simp at hx; subst hx; rfl) rfl (by omega) hz1 ?_; intro v4 w4 HA4)
              have HR := HOk v4 w4 HA4 HPr.out
              have HP4 := Lib.hid (HP1.out.stay (g := B9) (but_of HA4.out.below) HLo.out.2.2.1.1 HLo.out.2.2.1.1 ⟨HLo.out.1.1, by have := HLo.out; omega⟩ ⟨HLo.out.1.2, by have := HLo.out; omega⟩ (fun k hk => ⟨HLo.out.2.2.2.2 k hk, by have := HLo.out.2.2.2.2 k hk; omega⟩))
              go_roundg mk
              case measure => omega
              case rel => exact ⟨j + 1, _, by omega, by go_num, rfl, HP4, HR.1, HR.2⟩
            | false =>
              have HO2 : Hid (OwnInts W1 B9 ov (presentL ws bg (j + 1))) := Lib.hid (by
                rw [presentL_succ, if_neg (by rw [hpe, hb]; simp), List.append_nil]
                exact HO1.out)
              clear hpe hb HCo HOk
              go_wp2_with fail
              go_roundg mk
              case measure => omega
              case rel => exact ⟨j + 1, _, by omega, by go_num, rfl, HP1, HO2, HB1⟩
    · have HE : Hid (colF gs fs (n : Int) m = (3, -1)) := Lib.hid (by unfold colF; rw [if_neg (by rw [Hun.out]; simp), if_pos hm2])
      have hdm : decide (2 ≤ m ∧ m ≤ 14) = false := decide_eq_false hm2
      have hW := Within_any m 2 14 W2
      rw [hdm] at hW
      have HWi := Lib.hid hW
      clear hcz hf hk0 hk1 hph hho hbo hunf y0 y1 hfz hfz1 hW hdm hm2
      go_wp2_with fail
      refine HWi.out.mono ?_
      rintro e w' ⟨rfl, rfl⟩
      go_wp2_with fail
      refine (Fault_any 3 (-1) W2).mono ?_
      rintro e W3 ⟨rfl, hb3⟩
      have HX3 := Lib.hid (HX2.out.below hb3 HX2.out.lt)
      have HB3 := Lib.hid (HB2.out.trans (hb3.mono HB2.out.size))
      have y0 := HX3.out.cell 0
      have y1 := HX3.out.cell 1
      have hfz := HX3.out.frozen 0
      have hfz1 := HX3.out.frozen 1
      clear hb3
      go_wp2_with fail
      refine end_tmp_cell rfl rfl (HX3.out.set2 (.int .i64 3) (.int .i64 (-1))) Tryz.underlying28 rfl (by kernel_rfl) rfl (HP.out _ _ ⟨_, [], by rw [HE.out]; rfl, OwnInts.nil _ _, ?_, fun _ => rfl, fun h => by rw [HE.out] at h; cases h⟩)
      exact ((HB3.out.setCell Hlg.out _).setCell Hlg.out _)
  · have hub : (uc == 0) = false := by simpa using h0
    have HE : Hid (colF gs fs k m = (uc, ua)) := Lib.hid (by unfold colF; rw [if_pos (by rw [Hun.out]; exact h0), Hun.out])
    have H0 := Lib.hid h0
    clear h0
    go_wp2_with fail
    go_region
    all_goals
      go_wp2_with fail
      refine end_tmp_cell rfl rfl (HX2.out.set2 (.int .i64 uc) (.int .i64 ua)) Tryz.underlying28 rfl (by kernel_rfl) rfl (HP.out _ _ ⟨_, [], by rw [HE.out]; rfl, OwnInts.nil _ _, ?_, fun _ => rfl, fun h => absurd (by rw [HE.out] at h; exact h) H0.out⟩)
      exact below_drew (((HB2.out.setCell Hlg.out _).setCell Hlg.out _))
end Go.Proofs.YtiknhfbkphoceaaGreatDoor
