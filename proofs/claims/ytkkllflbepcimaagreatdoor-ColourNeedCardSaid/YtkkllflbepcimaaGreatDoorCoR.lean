/-
  The law ColourNeed.
  Conditions: the unit's numbers are Go's.
-/
import Derived.Test.YtkkllflbepcimaaGreatDoorCoN
import Derived.Test.YtkkllflbepcimaaGreatDoorOfG
import Derived.BigQuiet
import Derived.BigRegion
namespace Go.Proofs.YtkkllflbepcimaaGreatDoor
open Go.RowKit
attribute [local go_sem] Oper.semAt_some

/-- A word is not far: as far as there are clashes. -/
theorem Painted.small {nr mm : Nat} {rows : List (List Int)} {acr ws bg ps : List Int} (h : Painted nr rows acr (givenS mm) (presentL ws bg nr) ps) {r : Nat} {x : Int} (hr : r < nr) (hx : ps[r]? = some x) (h16 : 16 ≤ x) {row : List Int} (hrow : rows[r]? = some row) : x ≤ 16 + (row.length : Int) := by
  have := taken_few (row := row) (ps := ps) (k := (x - 16).toNat) fun j hj => by
    obtain ⟨o, ho, he⟩ := h.needs hr hx h16 hrow (q := 16 + (j : Int)) (by omega) (.inl (by omega))
    exact taken_iff.2 ⟨o, ho, he⟩
  omega
theorem any_take {row : List Int} {p : Int → Bool} {t : Nat} {o : Int} (h : row[t]? = some o) : (row.take (t + 1)).any p = ((row.take t).any p || p o) := by
  rw [List.take_succ_eq_append_getElem (List.getElem?_eq_some_iff.1 h).1, (List.getElem?_eq_some_iff.1 h).2, List.any_append]
  simp
set_option maxRecDepth 100000 in
set_option maxHeartbeats 8000000 in
theorem ColourNeed_any (gv fv : Value) (gs : List Glob) (fs : List FunU) (k many : Int) (w : World) (hk : I64 k) (hm : I64 many) (hu : UnitAt w w.heap.size gv fv gs fs) :
    Calls Tryz.prog 4 #[.agg #[gv, fv], .int .i64 k, .int .i64 many] w fun e w' => e = .returned (.bool true) ∧ Below w.heap.size w w' := by
  have HU := Lib.hid hu
  obtain ⟨A, c, rfl, hl1, hl2⟩ := SlAt.form hu.funs
  obtain ⟨l, hl⟩ : ∃ l, fs.length = l := ⟨_, rfl⟩
  rw [hl] at HU hl1 ⊢
  have Hl := Lib.hid hl
  have Hk := Lib.hid hk
  have Hmany := Lib.hid hm
  have HB0 : Hid (Below w.heap.size w (w.alloc (.cells #[gv, .slice A l c] 25))) := Lib.hid ((Below.refl _ _).alloc (Nat.le_refl _) _)
  have HC0 : Hid (Blk (w.alloc (.cells #[gv, .slice A l c] 25)) w.heap.size 25 #[gv, .slice A l c]) := Lib.hid (Blk.new w _ _)
  clear hu hk hl hm
  go_enter Tryz.func4, Tryz.ntmps4
  go_upto_region 1 with fail
  generalize w.alloc (.cells #[gv, .slice A l c] 25) = W0 at *
  have HT0 := Lib.hid (twin_any W0 (HU.out.later HB0.out).ways)
  go_wp2_with fail
  refine HT0.out.mono ?_
  rintro e W1 ⟨tg, tf, rfl, htu, hb1⟩
  have HB1 := Lib.hid (HB0.out.trans (hb1.mono HB0.out.size))
  have HC1 := Lib.hid (HC0.out.below hb1 HC0.out.lt)
  have HTc := Lib.hid (Colour_any tg tf [] twinFs 0 2 W1 (i64_small (by decide)) htu)
  clear hb1 htu HT0 HB0 HC0
  go_wp2_with fail
  refine HTc.out.mono ?_
  rintro e W2 ⟨v2, ps2, rfl, hv2, hb2, _, hcol⟩
  rw [twin_colF] at hcol ⊢
  obtain ⟨ta, tb, tc, rfl, hab, h0a, h0b, h0c⟩ := twin_painted (hcol rfl)
  have HB3 : Hid (Below w.heap.size w (W2.alloc (.cells #[.int .i64 0, .int .i64 0] 28))) := Lib.hid ((HB1.out.trans (hb2.mono HB1.out.size)).alloc (HB1.out.trans (hb2.mono HB1.out.size)).size _)
  have HC3 := Lib.hid ((HC1.out.below hb2 HC1.out.lt).alloc (.cells #[.int .i64 0, .int .i64 0] 28))
  have HF3 : Hid (Blk (W2.alloc (.cells #[.int .i64 0, .int .i64 0] 28)) W2.heap.size 28 #[.int .i64 0, .int .i64 0]) := Lib.hid (Blk.new _ _ _)
  have hv3 := (hv2.below (w' := W2.alloc (.cells #[.int .i64 0, .int .i64 0] 28)) ((Below.refl _ _).alloc (Nat.le_refl _) _) rfl).ints
  obtain ⟨vA, vc, rfl, _, _, hcell⟩ := hv3
  obtain ⟨tb0, to0, rfl, _, hcell⟩ := hcell (by simp)
  have t2 := hcell 2 tc rfl
  have hct : ¬ tc < 0 := by omega
  simp only [List.length_cons, List.length_nil, Nat.zero_add, Nat.reduceAdd]
  clear hcol hv2 hb2 hcell HTc HB1 HC1 hab h0a h0b h0c
  go_upto_region 2 with fail
  generalize W2.alloc (.cells #[.int .i64 0, .int .i64 0] 28) = W4 at *
  generalize W2.heap.size = g8 at *
  have x0 := HF3.out.cell 0
  have HB4 := HB3
  have HC4 := HC3
  clear HB3 HC3 HF3
  have HU4 := Lib.hid (HU.out.later HB4.out)
  have c0 := HC4.out.cell 0
  have c1 := HC4.out.cell 1
  go_wp2_with fail
  refine (good_any gv _ gs fs k W4 Hk.out HU4.out).mono ?_
  rintro e W5 ⟨rfl, hb5⟩
  clear x0 t2 hct
  have HB5 := Lib.hid (HB4.out.trans (hb5.mono HB4.out.size))
  have HC5 := Lib.hid (HC4.out.below hb5 HC4.out.lt)
  clear hb5 HU4 HC4 HB4 c0 c1
  cases hgd : goodF gs fs k with
  | false =>
    clear hgd
    go_wp2_with fail
    go_ret
    exact ⟨rfl, HB5.out⟩
  | true =>
    have hcf : (clashF gs fs k).1 = 0 := by
      unfold goodF at hgd
      rw [Bool.and_eq_true, decide_eq_true_eq] at hgd
      exact hgd.1
    clear hgd
    have hcz := clashF_zero hcf
    have hgc := hcz.1
    obtain ⟨f, hf, hk0, hk1, hph, hho, hbo⟩ := hcz.2.2
    obtain ⟨n, rfl⟩ : ∃ n : Nat, k = (n : Int) := ⟨k.toNat, by omega⟩
    rw [Int.toNat_natCast] at hf
    have hnl : n < l := by rw [Hl.out] at hk1; omega
    obtain ⟨fb, fo, f', bA, bc, rfl, hfb, hfn, f0, f1, f2, f3, hbs⟩ := FunsAt.one HU.out.funs hnl
    obtain rfl : f = f' := by
      rw [hf] at hfn
      exact Option.some.inj hfn
    obtain ⟨nr, hnr⟩ : ∃ nr : Nat, f.regs = (nr : Int) := ⟨f.regs.toNat, by have := hho.p0; have := hho.r0; omega⟩
    have hnr1 : nr ≤ 100 := by have := hho.r1; omega
    rw [hnr] at f2
    have hof : ofF gs fs (n : Int) = ofRows f := by
      unfold ofF
      rw [if_neg (by rw [hcf]; simp), Int.toNat_natCast, hf]
    have hlr : (ofRows f).length = nr := by unfold ofRows; simp [hnr]
    have Hfew : Hid ((occBs f.blocks).length ≤ 3000) := Lib.hid (Nat.le_trans (occ_few hcz.2.1 hf) (by omega))
    have Hpr : Hid (∀ r : Nat, r < nr → presentB (weightsF gs fs (n : Int)) (listS nr (inU f.blocks 0)) (r : Int) = (decide (cnt (occBs f.blocks) (r : Int) ≠ 0) || inU f.blocks 0 (r : Int))) := Lib.hid (fun r hr => present_is hcf hf hnr hr)
    have Hrow : Hid (∀ r : Nat, r < nr → (ofRows f)[r]? = some (listS nr (ofS f.blocks (r : Int)))) := Lib.hid (fun r hr => by
      unfold ofRows
      rw [List.getElem?_map, hnr, Int.toNat_natCast, List.getElem?_range hr]
      rfl)
    have Hfl : Hid (f.blocks.length ≤ 40 ∧ 1 ≤ f.blocks.length ∧ ∀ b ∈ f.blocks, ∀ t ∈ b.to, 0 ≤ t ∧ t < (f.blocks.length : Int)) := Lib.hid ⟨hho.b1, hho.b0, fun b hb t ht => by have := (hbo.ends b hb).to t ht; omega⟩
    obtain ⟨mm, hmm⟩ : ∃ mm : Nat, 2 + many % 13 = (mm : Int) := ⟨(2 + many % 13).toNat, by omega⟩
    have hmm1 : 2 ≤ mm := by omega
    have hmm2 : mm ≤ 14 := by omega
    have Hcol : Hid (∀ ps : List Int, ((colF gs fs (n : Int) (mm : Int)).1 = 0 → ∀ f', fs[((n : Nat) : Int).toNat]? = some f' → Coloured f' (ofF gs fs (n : Int)) (acrossF gs fs (n : Int)) (givenS (mm : Int).toNat) (weightsF gs fs (n : Int)) (listS f'.regs.toNat (inU f'.blocks 0)) f'.regs.toNat ps) →
        Painted nr (ofRows f) (acrossF gs fs (n : Int)) (givenS mm) (presentL (weightsF gs fs (n : Int)) (listS nr (inU f.blocks 0)) nr) ps) := Lib.hid (fun ps h => by
      have hz : (colF gs fs (n : Int) (mm : Int)).1 = 0 := by
        unfold colF
        rw [if_neg (by rw [hcf]; simp), if_neg (by omega)]
      have h1 := h hz f (by rw [Int.toNat_natCast]; exact hf)
      rw [hof, hnr, Int.toNat_natCast, Int.toNat_natCast] at h1
      have hT := turns_of f
      rw [hnr, Int.toNat_natCast] at hT
      exact h1.painted hT hmm2)
    have hcf0 : colF gs fs (n : Int) (mm : Int) = (0, 0) := by
      unfold colF
      rw [if_neg (by rw [hcf]; simp), if_neg (by omega)]
    have Hcf := Lib.hid hcf0
    have Hgc := Lib.hid hgc
    have Hof := Lib.hid hof
    have Hlr := Lib.hid hlr
    have Hbs := Lib.hid hbs
    have HF0 := Lib.hid (And.intro f0 (And.intro f1 (And.intro f2 f3)))
    have HCo := Lib.hid (fun W (hB : Below w.heap.size w W) => Colour_any gv _ gs fs (n : Int) (mm : Int) W Hk.out (HU.out.later hB))
    have HRo := Lib.hid (fun W (hB : Below w.heap.size w W) => RClashOf_any gv _ gs fs (n : Int) W Hk.out (HU.out.later hB))
    have HRa := Lib.hid (fun W (hB : Below w.heap.size w W) => RAcross_any gv _ gs fs (n : Int) W Hk.out (HU.out.later hB))
    have HPk := Lib.hid (pickOf_any many 13 W5 (by decide) (by decide) Hmany.out)
    have hn1 : (n : Int) < (l : Int) := by omega
    clear hcz hgc hf hk0 hk1 hph hho hbo hfn hnr hof hlr hbs f0 f1 f2 f3 hcf hcf0
    go_wp2_with fail
    refine HPk.out.mono ?_
    rintro e w' ⟨rfl, rfl⟩
    have c0 := HC5.out.cell 0
    have c1 := HC5.out.cell 1
    go_wp2_with fail
    refine (HCo.out W5 HB5.out).mono ?_
    rintro e W6 ⟨pv, ps, rfl, hpv, hb6, _, hcol⟩
    have HPt := Lib.hid (Hcol.out ps hcol)
    rw [Hcf.out]
    have hz5 := HB5.out.size
    have hb7 : Below W5.heap.size W5 (W6.alloc (.cells #[.int .i64 0, .int .i64 0] 28)) := hb6.alloc hb6.size _
    have HB7 := Lib.hid (HB5.out.trans (hb7.mono hz5))
    have HC7 := Lib.hid (HC5.out.below hb7 HC5.out.lt)
    have HF7 : Hid (Blk (W6.alloc (.cells #[.int .i64 0, .int .i64 0] 28)) W6.heap.size 28 #[.int .i64 0, .int .i64 0]) := Lib.hid (Blk.new _ _ _)
    have HP7 := Lib.hid ((hpv.below (w' := W6.alloc (.cells #[.int .i64 0, .int .i64 0] 28)) ((Below.refl _ _).alloc (Nat.le_refl _) _) rfl).ints)
    obtain ⟨pA, pc, rfl⟩ := row_form hpv
    have hpn := HPt.out.len
    rw [hpn] at HP7 ⊢
    have Hpn := Lib.hid hpn
    clear hcol hpv hb6 hb7 hz5 HB5 HC5 HCo HPk Hcol hpn c0 c1
    go_upto_region 8 with fail
    generalize W6.alloc (.cells #[.int .i64 0, .int .i64 0] 28) = W7 at *
    generalize W6.heap.size = g11 at *
    have c0 := HC7.out.cell 0
    have c1 := HC7.out.cell 1
    go_wp2_with fail
    refine (HRo.out W7 HB7.out).mono ?_
    rintro e W8 ⟨rv, rfl, hrv, hb8⟩
    rw [Hgc.out]
    have hz7 := HB7.out.size
    have hb9 : Below W7.heap.size W7 (W8.alloc (.cells #[.int .i64 0, .int .i64 0] 28)) := hb8.alloc hb8.size _
    have HB9 := Lib.hid (HB7.out.trans (hb9.mono hz7))
    have HC9 := Lib.hid (HC7.out.below hb9 HC7.out.lt)
    have HF9 := Lib.hid (HF7.out.below hb9 HF7.out.lt)
    have HG9 : Hid (Blk (W8.alloc (.cells #[.int .i64 0, .int .i64 0] 28)) W8.heap.size 28 #[.int .i64 0, .int .i64 0]) := Lib.hid (Blk.new _ _ _)
    have HP9 := Lib.hid (HP7.out.move hb9.size (kept_of hb9 (Nat.le_refl _)))
    have hr9 := (hrv.below (w' := W8.alloc (.cells #[.int .i64 0, .int .i64 0] 28)) ((Below.refl _ _).alloc (Nat.le_refl _) _) rfl).rows
    obtain ⟨rA, rc, rfl⟩ := hrv.form
    rw [Hof.out, Hlr.out] at hr9 ⊢
    have HR9 := Lib.hid hr9
    clear hrv hb8 hb9 hz7 hr9 HB7 HC7 HF7 HP7 HRo c0 c1
    go_upto_region 9 with fail
    generalize W8.alloc (.cells #[.int .i64 0, .int .i64 0] 28) = W9 at *
    generalize W8.heap.size = g13 at *
    have c0 := HC9.out.cell 0
    have c1 := HC9.out.cell 1
    go_wp2_with fail
    refine (HRa.out W9 HB9.out).mono ?_
    rintro e W10 ⟨av, rfl, hav, hb10⟩
    rw [Hgc.out]
    have hz9 := HB9.out.size
    have hb11 : Below W9.heap.size W9 (W10.alloc (.cells #[.int .i64 0, .int .i64 0] 28)) := hb10.alloc hb10.size _
    have HB11 := Lib.hid (HB9.out.trans (hb11.mono hz9))
    have HC11 := Lib.hid (HC9.out.below hb11 HC9.out.lt)
    have HF11 := Lib.hid (HF9.out.below hb11 HF9.out.lt)
    have HG11 := Lib.hid (HG9.out.below hb11 HG9.out.lt)
    have HH11 : Hid (Blk (W10.alloc (.cells #[.int .i64 0, .int .i64 0] 28)) W10.heap.size 28 #[.int .i64 0, .int .i64 0]) := Lib.hid (Blk.new _ _ _)
    have HP11 := Lib.hid (HP9.out.move hb11.size (kept_of hb11 (Nat.le_refl _)))
    have HR11 := Lib.hid (HR9.out.move hb11.size (kept_of hb11 (Nat.le_refl _)))
    have HA11 := Lib.hid ((hav.below (w' := W10.alloc (.cells #[.int .i64 0, .int .i64 0] 28)) ((Below.refl _ _).alloc (Nat.le_refl _) _) rfl).ints)
    clear hav hb10 hb11 hz9 HB9 HC9 HF9 HG9 HP9 HR9 HRa c0 c1
    go_upto_region 10 with fail
    generalize W10.alloc (.cells #[.int .i64 0, .int .i64 0] 28) = W11 at *
    generalize W10.heap.size = g15 at *
    have c0 := HC11.out.cell 0
    have c1 := HC11.out.cell 1
    have x0 := HF11.out.cell 0
    have y0 := HG11.out.cell 0
    have z0 := HH11.out.cell 0
    have f2 := (bcell HB11.out hfb).trans HF0.out.2.2.1
    go_upto_region 13 with fail
    clear c0 c1 x0 y0 z0 f2 HF11 HG11 HH11
    have HPc : Hid (∀ (j : Nat) (x : Int), ps[j]? = some x → ∃ b off, pA = some ⟨b, off, none⟩ ∧ b < W11.heap.size ∧ W11.cell? ⟨b, off + j, none⟩ = some (.int .i64 x)) := Lib.hid (by
      obtain ⟨A', c', e, _, _, hcell⟩ := HP11.out
      obtain rfl : A' = pA := ((Value.slice.inj e).1).symm
      intro j x hx
      obtain ⟨b, off, e1, e2, e3⟩ := hcell (by have := (List.getElem?_eq_some_iff.1 hx).1; omega)
      exact ⟨b, off, e1, e2, e3 j x hx⟩)
    clear HF0 Hbs HP11 hfb Hpr Hfew Hfl HC11
    go_loopg [16] nr (fun gk iv wr => ∃ r : Nat, r + gk = nr ∧ iv = .int .i64 (r : Int) ∧ Hid (Below W11.heap.size W11 wr))
    case atStart => exact ⟨0, by omega, rfl, Lib.hid (Below.refl _ _)⟩
    case round =>
      obtain ⟨r, hr, rfl, HBr⟩ := hrel
      rcases gk with _ | mk
      · have hrt : ¬ (r : Int) < (nr : Int) := by omega
        go_wp2_with fail
        go_ret
        exact ⟨rfl, HB11.out.trans (HBr.out.mono HB11.out.size)⟩
      · have hrt : (r : Int) < (nr : Int) := by omega
        have hr0 : (0 : Int) ≤ (r : Int) := Int.natCast_nonneg r
        have hrn : r < nr := by omega
        obtain ⟨x, hx⟩ : ∃ x, ps[r]? = some x := ⟨ps[r]'(by rw [Hpn.out]; exact hrn), List.getElem?_eq_getElem _⟩
        obtain ⟨pb, po, rfl, hpb, hpc⟩ := HPc.out r x hx
        have Hpc0 : Hid (∀ W, Below W11.heap.size W11 W → W.cell? ⟨pb, po + r, none⟩ = some (.int .i64 x)) := Lib.hid (fun W hb => (bcell hb hpb).trans hpc)
        obtain ⟨row, hrw⟩ : ∃ row, listS nr (ofS f.blocks (r : Int)) = row := ⟨_, rfl⟩
        have hrow := Hrow.out r hrn
        rw [hrw] at hrow
        obtain ⟨_, rb, ro, rv0, row', rfl, hrb, hrr, hrc0, hri⟩ := HR11.out.at_ hrn
        obtain rfl : row = row' := by rw [hrow] at hrr; exact Option.some.inj hrr
        have hrl : row.length ≤ 100 := by
          have := listS_len nr (ofS f.blocks (r : Int))
          rw [hrw] at this
          omega
        have Hnd : Hid (16 ≤ x → ∀ q : Int, q < x → 16 ≤ q ∨ (q ∈ givenS mm ∧ (6 ≤ q ∨ (r : Int) ∉ acrossF gs fs (n : Int))) → ∃ o ∈ row, plAt ps o = q) := Lib.hid (fun h16 q hqx hq => HPt.out.needs hrn hx h16 hrow hqx hq)
        have Hsm : Hid (16 ≤ x → x ≤ 116) := Lib.hid (fun h16 => by have := HPt.out.small hrn hx h16 hrow; omega)
        have Hrr : Hid (∀ o ∈ row, 0 ≤ o ∧ o < (nr : Int)) := Lib.hid (fun o ho => by rw [← hrw, listS_mem] at ho; exact ⟨ho.1, ho.2.1⟩)
        obtain ⟨qA, qc, rfl, _, _, hqc⟩ := id hri
        obtain ⟨ln, hln⟩ : ∃ ln, row.length = ln := ⟨_, rfl⟩
        rw [hln] at hrl hrc0 hqc
        have Hln := Lib.hid hln
        have Hqc := Lib.hid hqc
        have Hrc := Lib.hid (And.intro hrb hrc0)
        clear hln hqc hrb hrc0 hri hrr hrow hrw hx hpb hpc
        by_cases h16 : x ≥ 16
        · have hx1 : x ≤ 116 := Hsm.out h16
          obtain ⟨xn, rfl⟩ : ∃ xn : Nat, x = (xn : Int) := ⟨x.toNat, by omega⟩
          go_upto_region 16 with fail
          go_loopg [17] xn (fun gk iv wq => ∃ q : Nat, q + gk = xn ∧ iv = .int .i64 (q : Int) ∧ Hid (Below W11.heap.size W11 wq))
          case atStart => exact ⟨0, by omega, rfl, HBr⟩
          case round =>
            obtain ⟨q, hq, rfl, HBq⟩ := hrel
            have pc0 := Hpc0.out _ HBq.out
            rcases gk with _ | nk
            · have hqx : ¬ (q : Int) < (xn : Int) := by omega
              go_wp2_with fail
              go_roundg mk
              case measure => omega
              case rel => exact ⟨r + 1, by omega, by go_num, HBq⟩
            · have hqx : (q : Int) < (xn : Int) := by omega
              obtain ⟨b1, hb1⟩ : ∃ b1, hasN (givenS mm) (q : Int) = b1 := ⟨_, rfl⟩
              obtain ⟨b2, hb2⟩ : ∃ b2, hasN (acrossF gs fs (n : Int)) (r : Int) = b2 := ⟨_, rfl⟩
              have HGv := Lib.hid (RGiven_any mm (q : Int) wr hmm1 hmm2 ⟨by omega, by omega⟩)
              have HHs := Lib.hid (hasInt_any _ _ (r : Int) _ wr (HA11.out.move HBq.out.size (kept_of HBq.out (Nat.le_refl _))))
              have Hb1 := Lib.hid hb1
              have Hb2 := Lib.hid hb2
              rw [hb1] at HGv
              rw [hb2] at HHs
              clear hb1 hb2
              go_upto_region 18 with fail
              go_cut [126] from 110 to 126 (fun s wx => s = .bool (decide ((q : Int) < 16) && (!b1 || (b2 && decide ((q : Int) < 6)))) ∧ wx = wr)
              case first =>
                by_cases g16 : (q : Int) < 16
                · cases b1 with
                  | false =>
                    go_wp2_with fail
                    refine HGv.out.mono ?_
                    rintro e w' ⟨rfl, rfl⟩
                    go_wp2_with fail
                    go_meet
                    exact ⟨by simp [g16], rfl⟩
                  | true =>
                    go_wp2_with fail
                    refine HGv.out.mono ?_
                    rintro e w' ⟨rfl, rfl⟩
                    cases b2 with
                    | false =>
                      go_wp2_with fail
                      refine HHs.out.mono ?_
                      rintro e w' ⟨rfl, rfl⟩
                      go_wp2_with fail
                      go_meet
                      exact ⟨by simp, rfl⟩
                    | true =>
                      go_wp2_with fail
                      refine HHs.out.mono ?_
                      rintro e w' ⟨rfl, rfl⟩
                      go_wp2_with fail
                      go_meet
                      exact ⟨by simp [g16], rfl⟩
                · go_wp2_with fail
                  go_meet
                  exact ⟨by rw [decide_eq_false (show ¬ (q : Int) < 16 by omega)]; rfl, rfl⟩
              case rest =>
                obtain ⟨rfl, rfl⟩ := hcut
                obtain ⟨sk, hsk⟩ : ∃ sk, (decide ((q : Int) < 16) && (!b1 || (b2 && decide ((q : Int) < 6)))) = sk := ⟨_, rfl⟩
                rw [hsk]
                cases sk with
                | true =>
                  clear hsk
                  go_wp2_with fail
                  go_roundg nk
                  case measure => omega
                  case rel => exact ⟨q + 1, by omega, by go_num, HBq⟩
                | false =>
                  have HAn : Hid ((row.any fun o => plAt ps o == (q : Int)) = true) := Lib.hid (by
                    have hcase : 16 ≤ (q : Int) ∨ ((q : Int) ∈ givenS mm ∧ (6 ≤ (q : Int) ∨ (r : Int) ∉ acrossF gs fs (n : Int))) := by
                      by_cases g16 : (q : Int) < 16
                      · rw [decide_eq_true g16, Bool.true_and, Bool.or_eq_false_iff] at hsk
                        obtain ⟨s1, s2⟩ := hsk
                        refine .inr ⟨hasN_iff.1 (by rw [Hb1.out]; simpa using s1), ?_⟩
                        cases hb : b2 with
                        | false => exact .inr fun hm => by rw [← hasN_iff, Hb2.out, hb] at hm; cases hm
                        | true =>
                          rw [hb, Bool.true_and, decide_eq_false_iff_not] at s2
                          exact .inl (by omega)
                      · exact .inl (by omega)
                    obtain ⟨o, ho, he⟩ := Hnd.out h16 (q : Int) hqx hcase
                    exact List.any_eq_true.2 ⟨o, ho, by simpa using he⟩)
                  clear hsk
                  go_upto_region 21 with fail
                  go_loopg [19, 18] ln (fun gk iv hv wz => ∃ t : Nat, t + gk = ln ∧ iv = .int .i64 (t : Int) ∧ hv = .bool ((row.take t).any fun o => plAt ps o == (q : Int)) ∧ Hid (Below W11.heap.size W11 wz))
                  case atStart => exact ⟨0, by omega, rfl, rfl, HBq⟩
                  case round =>
                    obtain ⟨t, ht, rfl, rfl, HBz⟩ := hrel
                    have hrc0 := (bcell HBz.out Hrc.out.1).trans Hrc.out.2
                    clear pc0
                    rcases gk with _ | zk
                    · have htt : ¬ (t : Int) < (ln : Int) := by omega
                      have hte : (row.take t).any (fun o => plAt ps o == (q : Int)) = true := by
                        rw [show t = row.length by have := Hln.out; omega, List.take_length]
                        exact HAn.out
                      rw [hte]
                      clear hte
                      go_wp2_with fail
                      go_roundg nk
                      case measure => omega
                      case rel => exact ⟨q + 1, by omega, by go_num, HBz⟩
                    · have htt : (t : Int) < (ln : Int) := by omega
                      have ht0 : (0 : Int) ≤ (t : Int) := Int.natCast_nonneg t
                      obtain ⟨qb, qo, rfl, hqb, hqc⟩ := Hqc.out (by omega)
                      obtain ⟨o, ho⟩ : ∃ o, row[t]? = some o := ⟨row[t]'(by have := Hln.out; omega), List.getElem?_eq_getElem _⟩
                      have q0 := (bcell HBz.out hqb).trans (hqc t o ho)
                      obtain ⟨ho0, ho1⟩ := Hrr.out o (List.mem_of_getElem? ho)
                      obtain ⟨on, rfl⟩ : ∃ on : Nat, o = (on : Int) := ⟨o.toNat, by omega⟩
                      obtain ⟨y, hy⟩ : ∃ y, ps[on]? = some y := ⟨ps[on]'(by rw [Hpn.out]; omega), List.getElem?_eq_getElem _⟩
                      obtain ⟨pb2, po2, e2, hpb2, hpc2⟩ := HPc.out on y hy
                      injection e2 with e2
                      injection e2 with e2 e3
                      subst e2
                      subst e3
                      have p1 := (bcell HBz.out hpb2).trans hpc2
                      have Hst : Hid ((row.take (t + 1)).any (fun o => plAt ps o == (q : Int)) = ((row.take t).any (fun o => plAt ps o == (q : Int)) || (y == (q : Int)))) := Lib.hid (by rw [any_take ho, plAt_of hy])
                      obtain ⟨hd, hhd⟩ : ∃ hd, (row.take t).any (fun o => plAt ps o == (q : Int)) = hd := ⟨_, rfl⟩
                      rw [hhd] at Hst ⊢
                      clear hqc ho hpc2 hy hhd
                      cases hd with
                      | true =>
                        go_wp2_with fail
                        go_roundg zk
                        case measure => omega
                        case rel => exact ⟨t + 1, by omega, by go_num, by rw [Hst.out]; rfl, HBz⟩
                      | false =>
                        go_wp2_with fail
                        go_roundg zk
                        case measure => omega
                        case rel => exact ⟨t + 1, by omega, by go_num, by rw [Hst.out]; simp, HBz⟩
        · go_upto_region 16 with fail
          go_loopg [17] 0 (fun _ iv wq => iv = .int .i64 0 ∧ wq = wr)
          case atStart => exact ⟨rfl, rfl⟩
          case round =>
            obtain ⟨rfl, rfl⟩ := hrel
            have pc0 := Hpc0.out _ HBr.out
            by_cases h0 : (0 : Int) < x
            · go_wp2_with fail
              go_roundg mk
              case measure => omega
              case rel => exact ⟨r + 1, by omega, by go_num, HBr⟩
            · go_wp2_with fail
              go_roundg mk
              case measure => omega
              case rel => exact ⟨r + 1, by omega, by go_num, HBr⟩
end Go.Proofs.YtkkllflbepcimaaGreatDoor
