/-
  The law ColourApart.
  Conditions: the unit's numbers are Go's.
-/
import Derived.Test.YtkkllflbepcimaaGreatDoorCoN
import Derived.Test.YtkkllflbepcimaaGreatDoorOfG
import Derived.Test.YtkkllflbepcimaaGreatDoorIng
import Derived.BigQuiet
import Derived.BigRegion
namespace Go.Proofs.YtkkllflbepcimaaGreatDoor
open Go.RowKit
attribute [local go_sem] Oper.semAt_some

/-- Region 15 where liveness is asked for: what the reading of the answer leans on. -/
def AskRun (pv : Nat → Option Value) (w0 : World) (il : Bool) (σ : Nat → Option Value) (w : World) : Prop :=
  KnownRun pv w0 σ w ∧ ∃ b0 n0 c0 b1 n1 c1, (∀ u, σ 20 = some u → u = .slice (some ⟨b0, 0, none⟩) n0 c0 ∧ (0 < n0 ∧ 0 < n1) ∧ w.cell? ⟨b0, 0, none⟩ = some (.slice (some ⟨b1, 0, none⟩) n1 c1) ∧ w.cell? ⟨b1, 0, none⟩ = some (.bool il) ∧ n0 ≤ 1000 ∧ n1 ≤ 9000000000000000000) ∧
    (∀ u, σ 21 = some u → u = .pointer (some ⟨b0, 0, none⟩)) ∧ (∀ u, σ 22 = some u → u = .slice (some ⟨b1, 0, none⟩) n1 c1) ∧ (∀ u, σ 23 = some u → u = .pointer (some ⟨b1, 0, none⟩))
section
variable {pv : Nat → Option Value} {w0 : World} {il : Bool} {σ : Nat → Option Value} {w w' : World}
theorem AskRun.start (h : Below w0.heap.size w0 w) : AskRun pv w0 il (fun _ => none) w := ⟨KnownRun.start h, 0, 0, 0, 0, 0, 0, by simp, by simp, by simp, by simp⟩
theorem AskRun.low (h : AskRun pv w0 il σ w) : Below w0.heap.size w0 w := h.1.1
theorem AskRun.val (h : AskRun pv w0 il σ w) {k : Nat} {u v : Value} (hu : σ k = some u) (hp : pv k = some v) : u = v := h.1.val hu hp
theorem AskRun.say (h : AskRun pv w0 il σ w) {k : Nat} {v : Value} (hk : pv k = some v) (hn : k ≠ 20 ∧ k ≠ 21 ∧ k ≠ 22 ∧ k ≠ 23) (hb : Below w.heap.size w w') : AskRun pv w0 il (upd σ k v) w' := by
  obtain ⟨h1, b0, n0, c0, b1, n1, c1, h2, h3, h4, h5⟩ := h
  refine ⟨h1.say hk hb, b0, n0, c0, b1, n1, c1, ?_, ?_, ?_, ?_⟩
  · rw [upd_ne hn.1.symm]
    intro u hu
    obtain ⟨e1, e2, e3, e4, e5⟩ := h2 u hu
    exact ⟨e1, e2, (bcell hb (block_lt_of_cell e3)).trans e3, (bcell hb (block_lt_of_cell e4)).trans e4, e5⟩
  · rw [upd_ne hn.2.1.symm]; exact h3
  · rw [upd_ne hn.2.2.1.symm]; exact h4
  · rw [upd_ne hn.2.2.2.symm]; exact h5
theorem AskRun.call (h : AskRun pv w0 il σ w) (hp : pv 20 = none) (h21 : σ 21 = none) (h22 : σ 22 = none) (h23 : σ 23 = none) (hb : Below w.heap.size w w') {b0 n0 c0 b1 n1 c1 : Nat} (hn : 0 < n0 ∧ 0 < n1) (k0 : w'.cell? ⟨b0, 0, none⟩ = some (.slice (some ⟨b1, 0, none⟩) n1 c1)) (k1 : w'.cell? ⟨b1, 0, none⟩ = some (.bool il)) (hs : n0 ≤ 1000 ∧ n1 ≤ 9000000000000000000) :
    AskRun pv w0 il (upd σ 20 (.slice (some ⟨b0, 0, none⟩) n0 c0)) w' := by
  refine ⟨h.1.free hp _ hb, b0, n0, c0, b1, n1, c1, ?_, ?_, ?_, ?_⟩
  · rw [upd_same]
    intro u hu
    cases hu
    exact ⟨rfl, hn, k0, k1, hs⟩
  · rw [upd_ne (by decide), h21]; intro u hu; cases hu
  · rw [upd_ne (by decide), h22]; intro u hu; cases hu
  · rw [upd_ne (by decide), h23]; intro u hu; cases hu
theorem AskRun.at0 (h : AskRun pv w0 il σ w) {u : Value} (hu : σ 20 = some u) (hp : pv 21 = none) : ∃ b0 n0 c0, u = .slice (some ⟨b0, 0, none⟩) n0 c0 ∧ 0 < n0 ∧ n0 ≤ 1000 ∧ AskRun pv w0 il (upd σ 21 (.pointer (some ⟨b0, 0, none⟩))) w := by
  obtain ⟨h1, b0, n0, c0, b1, n1, c1, h2, h3, h4, h5⟩ := h
  obtain ⟨e1, e2, _, _, e5⟩ := h2 u hu
  refine ⟨b0, n0, c0, e1, e2.1, e5.1, h1.free hp _ (Below.refl _ _), b0, n0, c0, b1, n1, c1, ?_, ?_, ?_, ?_⟩
  · rw [upd_ne (by decide)]; exact h2
  · rw [upd_same]; intro u hu; cases hu; rfl
  · rw [upd_ne (by decide)]; exact h4
  · rw [upd_ne (by decide)]; exact h5
theorem AskRun.at1 (h : AskRun pv w0 il σ w) {u v : Value} (hu : σ 20 = some u) (hv : σ 21 = some v) (hp : pv 22 = none) : ∃ b0 b1 n1 c1, v = .pointer (some ⟨b0, 0, none⟩) ∧ w.cell? ⟨b0, 0, none⟩ = some (.slice (some ⟨b1, 0, none⟩) n1 c1) ∧ AskRun pv w0 il (upd σ 22 (.slice (some ⟨b1, 0, none⟩) n1 c1)) w := by
  obtain ⟨h1, b0, n0, c0, b1, n1, c1, h2, h3, h4, h5⟩ := h
  obtain ⟨e1, e2, e3, _⟩ := h2 u hu
  refine ⟨b0, b1, n1, c1, h3 v hv, e3, h1.free hp _ (Below.refl _ _), b0, n0, c0, b1, n1, c1, ?_, ?_, ?_, ?_⟩
  · rw [upd_ne (by decide)]; exact h2
  · rw [upd_ne (by decide)]; exact h3
  · rw [upd_same]; intro u hu; cases hu; rfl
  · rw [upd_ne (by decide)]; exact h5
theorem AskRun.at2 (h : AskRun pv w0 il σ w) {u v : Value} (hu : σ 20 = some u) (hv : σ 22 = some v) (hp : pv 23 = none) : ∃ b1 n1 c1, v = .slice (some ⟨b1, 0, none⟩) n1 c1 ∧ 0 < n1 ∧ n1 ≤ 9000000000000000000 ∧ AskRun pv w0 il (upd σ 23 (.pointer (some ⟨b1, 0, none⟩))) w := by
  obtain ⟨h1, b0, n0, c0, b1, n1, c1, h2, h3, h4, h5⟩ := h
  obtain ⟨e1, e2, _, _, _, e6⟩ := h2 u hu
  refine ⟨b1, n1, c1, h4 v hv, e2.2, e6, h1.free hp _ (Below.refl _ _), b0, n0, c0, b1, n1, c1, ?_, ?_, ?_, ?_⟩
  · rw [upd_ne (by decide)]; exact h2
  · rw [upd_ne (by decide)]; exact h3
  · rw [upd_ne (by decide)]; exact h4
  · rw [upd_same]; intro u hu; cases hu; rfl
theorem AskRun.at3 (h : AskRun pv w0 il σ w) {u v : Value} (hu : σ 20 = some u) (hv : σ 23 = some v) : ∃ b1, v = .pointer (some ⟨b1, 0, none⟩) ∧ w.cell? ⟨b1, 0, none⟩ = some (.bool il) := by
  obtain ⟨h1, b0, n0, c0, b1, n1, c1, h2, h3, h4, h5⟩ := h
  obtain ⟨e1, e2, _, e4, _⟩ := h2 u hu
  exact ⟨b1, h5 v hv, e4⟩
end
/-- What has come before what has come. -/
theorem was_done {l : List Oper} {σ : Nat → Option Value} (h : Closed l σ) {k j : Nat} {o : Oper} {u : Value} (hj : σ j = some u) (ho : l[j]? = some o) (hd : (o.after.toList.any fun e => e.on == k && Region.binds .any e) = true) : ∃ v, σ k = some v := by
  obtain ⟨e, he, h2⟩ := List.any_eq_true.1 hd
  simp only [Bool.and_eq_true, beq_iff_eq] at h2
  have := h j o ho (by rw [hj]; rfl) e he h2.2
  rw [h2.1] at this
  exact Option.isSome_iff_exists.1 this
set_option maxRecDepth 100000 in
set_option maxHeartbeats 8000000 in
theorem ColourApart_any (gv fv : Value) (gs : List Glob) (fs : List FunU) (k many : Int) (w : World) (hk : I64 k) (hm : I64 many) (hu : UnitAt w w.heap.size gv fv gs fs) :
    Calls Tryz.prog 3 #[.agg #[gv, fv], .int .i64 k, .int .i64 many] w fun e w' => e = .returned (.bool true) ∧ Below w.heap.size w w' := by
  have HU := Lib.hid hu
  obtain ⟨A, c, rfl, hl1, hl2⟩ := SlAt.form hu.funs
  obtain ⟨l, hl⟩ : ∃ l, fs.length = l := ⟨_, rfl⟩
  rw [hl] at HU hl1 ⊢
  have Hl := Lib.hid hl
  have Hk := Lib.hid hk
  have Hmany := Lib.hid hm
  have HB0 : Hid (Below w.heap.size w (w.alloc (.cells #[gv, .slice A l c] 25))) := Lib.hid ((Below.refl _ _).alloc (Nat.le_refl _) _)
  have HC0 : Hid (Blk (w.alloc (.cells #[gv, .slice A l c] 25)) w.heap.size 25 #[gv, .slice A l c]) := Lib.hid (Blk.new w _ _)
  clear hu hk hl hm
  go_enter Tryz.func3, Tryz.ntmps3
  go_upto_region 1 with fail
  generalize w.alloc (.cells #[gv, .slice A l c] 25) = W0 at *
  have HT0 := Lib.hid (twin_any W0 (HU.out.later HB0.out).ways)
  go_wp2_with fail
  refine HT0.out.mono ?_
  rintro e W1 ⟨tg, tf, rfl, htu, hb1⟩
  have HB1 := Lib.hid (HB0.out.trans (hb1.mono HB0.out.size))
  have HC1 := Lib.hid (HC0.out.below hb1 HC0.out.lt)
  have HTc := Lib.hid (Colour_any tg tf [] twinFs 0 2 W1 (i64_small (by decide)) htu)
  clear hb1 htu HT0 HB0 HC0
  go_wp2_with fail
  refine HTc.out.mono ?_
  rintro e W2 ⟨v2, ps2, rfl, hv2, hb2, _, hcol⟩
  rw [twin_colF] at hcol ⊢
  obtain ⟨ta, tb, tc, rfl, hab, h0a, h0b, h0c⟩ := twin_painted (hcol rfl)
  have HB3 : Hid (Below w.heap.size w (W2.alloc (.cells #[.int .i64 0, .int .i64 0] 28))) := Lib.hid ((HB1.out.trans (hb2.mono HB1.out.size)).alloc (HB1.out.trans (hb2.mono HB1.out.size)).size _)
  have HC3 := Lib.hid ((HC1.out.below hb2 HC1.out.lt).alloc (.cells #[.int .i64 0, .int .i64 0] 28))
  have HF3 : Hid (Blk (W2.alloc (.cells #[.int .i64 0, .int .i64 0] 28)) W2.heap.size 28 #[.int .i64 0, .int .i64 0]) := Lib.hid (Blk.new _ _ _)
  have hv3 := (hv2.below (w' := W2.alloc (.cells #[.int .i64 0, .int .i64 0] 28)) ((Below.refl _ _).alloc (Nat.le_refl _) _) rfl).ints
  obtain ⟨vA, vc, rfl, _, _, hcell⟩ := hv3
  obtain ⟨tb0, to0, rfl, _, hcell⟩ := hcell (by simp)
  have t0 := hcell 0 ta rfl
  have t1 := hcell 1 tb rfl
  have heq : decide (ta = tb) = false := decide_eq_false hab
  have heb : (ta == tb) = false := by simpa using hab
  rw [Nat.add_zero] at t0
  simp only [List.length_cons, List.length_nil, Nat.zero_add, Nat.reduceAdd]
  clear hcol hv2 hb2 hcell HTc HB1 HC1 hab h0a h0b h0c
  go_upto_region 2 with fail
  generalize W2.alloc (.cells #[.int .i64 0, .int .i64 0] 28) = W3 at *
  generalize W2.heap.size = g8 at *
  have x0 := HF3.out.cell 0
  go_quiet (fail)
  have HB4 : Hid (Below w.heap.size w (W3.drewN nq)) := Lib.hid (below_drewN HB3.out nq)
  have HC4 : Hid (Blk (W3.drewN nq) w.heap.size 25 #[gv, .slice A l c]) := Lib.hid HC3.out
  generalize W3.drewN nq = W4 at *
  clear x0 t0 t1 heq heb HB3 HC3 HF3
  have HU4 := Lib.hid (HU.out.later HB4.out)
  have c0 := HC4.out.cell 0
  have c1 := HC4.out.cell 1
  go_wp2_with fail
  refine (good_any gv _ gs fs k W4 Hk.out HU4.out).mono ?_
  rintro e W5 ⟨rfl, hb5⟩
  have HB5 := Lib.hid (HB4.out.trans (hb5.mono HB4.out.size))
  have HC5 := Lib.hid (HC4.out.below hb5 HC4.out.lt)
  clear hb5 HU4 HC4 HB4 c0 c1
  cases hgd : goodF gs fs k with
  | false =>
    clear hgd
    go_wp2_with fail
    go_ret
    exact ⟨rfl, HB5.out⟩
  | true =>
    have hcf : (clashF gs fs k).1 = 0 := by
      unfold goodF at hgd
      rw [Bool.and_eq_true, decide_eq_true_eq] at hgd
      exact hgd.1
    clear hgd
    have hcz := clashF_zero hcf
    have hgc := hcz.1
    obtain ⟨f, hf, hk0, hk1, hph, hho, hbo⟩ := hcz.2.2
    obtain ⟨n, rfl⟩ : ∃ n : Nat, k = (n : Int) := ⟨k.toNat, by omega⟩
    rw [Int.toNat_natCast] at hf
    have hnl : n < l := by rw [Hl.out] at hk1; omega
    obtain ⟨fb, fo, f', bA, bc, rfl, hfb, hfn, f0, f1, f2, f3, hbs⟩ := FunsAt.one HU.out.funs hnl
    obtain rfl : f = f' := by
      rw [hf] at hfn
      exact Option.some.inj hfn
    obtain ⟨nr, hnr⟩ : ∃ nr : Nat, f.regs = (nr : Int) := ⟨f.regs.toNat, by have := hho.p0; have := hho.r0; omega⟩
    have hnr1 : nr ≤ 100 := by have := hho.r1; omega
    rw [hnr] at f2
    have hof : ofF gs fs (n : Int) = ofRows f := by
      unfold ofF
      rw [if_neg (by rw [hcf]; simp), Int.toNat_natCast, hf]
    have hlr : (ofRows f).length = nr := by unfold ofRows; simp [hnr]
    have Hfew : Hid ((occBs f.blocks).length ≤ 3000) := Lib.hid (Nat.le_trans (occ_few hcz.2.1 hf) (by omega))
    have Hpr : Hid (∀ r : Nat, r < nr → presentB (weightsF gs fs (n : Int)) (listS nr (inU f.blocks 0)) (r : Int) = (decide (cnt (occBs f.blocks) (r : Int) ≠ 0) || inU f.blocks 0 (r : Int))) := Lib.hid (fun r hr => present_is hcf hf hnr hr)
    have Hrow : Hid (∀ r : Nat, r < nr → (ofRows f)[r]? = some (listS nr (ofS f.blocks (r : Int)))) := Lib.hid (fun r hr => by
      unfold ofRows
      rw [List.getElem?_map, hnr, Int.toNat_natCast, List.getElem?_range hr]
      rfl)
    have Hfl : Hid (f.blocks.length ≤ 40 ∧ 1 ≤ f.blocks.length ∧ ∀ b ∈ f.blocks, ∀ t ∈ b.to, 0 ≤ t ∧ t < (f.blocks.length : Int)) := Lib.hid ⟨hho.b1, hho.b0, fun b hb t ht => by have := (hbo.ends b hb).to t ht; omega⟩
    obtain ⟨mm, hmm⟩ : ∃ mm : Nat, 2 + many % 13 = (mm : Int) := ⟨(2 + many % 13).toNat, by omega⟩
    have hmm1 : 2 ≤ mm := by omega
    have hmm2 : mm ≤ 14 := by omega
    have Hcol : Hid (∀ ps : List Int, ((colF gs fs (n : Int) (mm : Int)).1 = 0 → ∀ f', fs[((n : Nat) : Int).toNat]? = some f' → Coloured f' (ofF gs fs (n : Int)) (acrossF gs fs (n : Int)) (givenS (mm : Int).toNat) (weightsF gs fs (n : Int)) (listS f'.regs.toNat (inU f'.blocks 0)) f'.regs.toNat ps) →
        Painted nr (ofRows f) (acrossF gs fs (n : Int)) (givenS mm) (presentL (weightsF gs fs (n : Int)) (listS nr (inU f.blocks 0)) nr) ps) := Lib.hid (fun ps h => by
      have hz : (colF gs fs (n : Int) (mm : Int)).1 = 0 := by
        unfold colF
        rw [if_neg (by rw [hcf]; simp), if_neg (by omega)]
      have h1 := h hz f (by rw [Int.toNat_natCast]; exact hf)
      rw [hof, hnr, Int.toNat_natCast, Int.toNat_natCast] at h1
      have hT := turns_of f
      rw [hnr, Int.toNat_natCast] at hT
      exact h1.painted hT hmm2)
    have hcf0 : colF gs fs (n : Int) (mm : Int) = (0, 0) := by
      unfold colF
      rw [if_neg (by rw [hcf]; simp), if_neg (by omega)]
    have Hcf := Lib.hid hcf0
    have Hgc := Lib.hid hgc
    have Hof := Lib.hid hof
    have Hlr := Lib.hid hlr
    have Hbs := Lib.hid hbs
    have HF0 := Lib.hid (And.intro f0 (And.intro f1 (And.intro f2 f3)))
    have HCo := Lib.hid (fun W (hB : Below w.heap.size w W) => Colour_any gv _ gs fs (n : Int) (mm : Int) W Hk.out (HU.out.later hB))
    have HRo := Lib.hid (fun W (hB : Below w.heap.size w W) => RClashOf_any gv _ gs fs (n : Int) W Hk.out (HU.out.later hB))
    have HRa := Lib.hid (fun W (hB : Below w.heap.size w W) => RAcross_any gv _ gs fs (n : Int) W Hk.out (HU.out.later hB))
    have HPk := Lib.hid (pickOf_any many 13 W5 (by decide) (by decide) Hmany.out)
    have hn1 : (n : Int) < (l : Int) := by omega
    clear hcz hgc hf hk0 hk1 hph hho hbo hfn hnr hof hlr hbs f0 f1 f2 f3 hcf hcf0
    go_wp2_with fail
    refine HPk.out.mono ?_
    rintro e w' ⟨rfl, rfl⟩
    have c0 := HC5.out.cell 0
    have c1 := HC5.out.cell 1
    go_wp2_with fail
    refine (HCo.out W5 HB5.out).mono ?_
    rintro e W6 ⟨pv, ps, rfl, hpv, hb6, _, hcol⟩
    have HPt := Lib.hid (Hcol.out ps hcol)
    rw [Hcf.out]
    have hz5 := HB5.out.size
    have hb7 : Below W5.heap.size W5 (W6.alloc (.cells #[.int .i64 0, .int .i64 0] 28)) := hb6.alloc hb6.size _
    have HB7 := Lib.hid (HB5.out.trans (hb7.mono hz5))
    have HC7 := Lib.hid (HC5.out.below hb7 HC5.out.lt)
    have HF7 : Hid (Blk (W6.alloc (.cells #[.int .i64 0, .int .i64 0] 28)) W6.heap.size 28 #[.int .i64 0, .int .i64 0]) := Lib.hid (Blk.new _ _ _)
    have HP7 := Lib.hid ((hpv.below (w' := W6.alloc (.cells #[.int .i64 0, .int .i64 0] 28)) ((Below.refl _ _).alloc (Nat.le_refl _) _) rfl).ints)
    obtain ⟨pA, pc, rfl⟩ := row_form hpv
    have hpn := HPt.out.len
    rw [hpn] at HP7 ⊢
    have Hpn := Lib.hid hpn
    clear hcol hpv hb6 hb7 hz5 HB5 HC5 HCo HPk Hcol hpn c0 c1
    go_upto_region 8 with fail
    generalize W6.alloc (.cells #[.int .i64 0, .int .i64 0] 28) = W7 at *
    generalize W6.heap.size = g11 at *
    have c0 := HC7.out.cell 0
    have c1 := HC7.out.cell 1
    go_wp2_with fail
    refine (HRo.out W7 HB7.out).mono ?_
    rintro e W8 ⟨rv, rfl, hrv, hb8⟩
    rw [Hgc.out]
    have hz7 := HB7.out.size
    have hb9 : Below W7.heap.size W7 (W8.alloc (.cells #[.int .i64 0, .int .i64 0] 28)) := hb8.alloc hb8.size _
    have HB9 := Lib.hid (HB7.out.trans (hb9.mono hz7))
    have HC9 := Lib.hid (HC7.out.below hb9 HC7.out.lt)
    have HF9 := Lib.hid (HF7.out.below hb9 HF7.out.lt)
    have HG9 : Hid (Blk (W8.alloc (.cells #[.int .i64 0, .int .i64 0] 28)) W8.heap.size 28 #[.int .i64 0, .int .i64 0]) := Lib.hid (Blk.new _ _ _)
    have HP9 := Lib.hid (HP7.out.move hb9.size (kept_of hb9 (Nat.le_refl _)))
    have hr9 := (hrv.below (w' := W8.alloc (.cells #[.int .i64 0, .int .i64 0] 28)) ((Below.refl _ _).alloc (Nat.le_refl _) _) rfl).rows
    obtain ⟨rA, rc, rfl⟩ := hrv.form
    rw [Hof.out, Hlr.out] at hr9 ⊢
    have HR9 := Lib.hid hr9
    clear hrv hb8 hb9 hz7 hr9 HB7 HC7 HF7 HP7 HRo c0 c1
    go_upto_region 9 with fail
    generalize W8.alloc (.cells #[.int .i64 0, .int .i64 0] 28) = W9 at *
    generalize W8.heap.size = g13 at *
    have c0 := HC9.out.cell 0
    have c1 := HC9.out.cell 1
    go_wp2_with fail
    refine (HRa.out W9 HB9.out).mono ?_
    rintro e W10 ⟨av, rfl, hav, hb10⟩
    rw [Hgc.out]
    have hz9 := HB9.out.size
    have hb11 : Below W9.heap.size W9 (W10.alloc (.cells #[.int .i64 0, .int .i64 0] 28)) := hb10.alloc hb10.size _
    have HB11 := Lib.hid (HB9.out.trans (hb11.mono hz9))
    have HC11 := Lib.hid (HC9.out.below hb11 HC9.out.lt)
    have HF11 := Lib.hid (HF9.out.below hb11 HF9.out.lt)
    have HG11 := Lib.hid (HG9.out.below hb11 HG9.out.lt)
    have HH11 : Hid (Blk (W10.alloc (.cells #[.int .i64 0, .int .i64 0] 28)) W10.heap.size 28 #[.int .i64 0, .int .i64 0]) := Lib.hid (Blk.new _ _ _)
    have HP11 := Lib.hid (HP9.out.move hb11.size (kept_of hb11 (Nat.le_refl _)))
    have HR11 := Lib.hid (HR9.out.move hb11.size (kept_of hb11 (Nat.le_refl _)))
    have HA11 := Lib.hid ((hav.below (w' := W10.alloc (.cells #[.int .i64 0, .int .i64 0] 28)) ((Below.refl _ _).alloc (Nat.le_refl _) _) rfl).ints)
    clear hav hb10 hb11 hz9 HB9 HC9 HF9 HG9 HP9 HR9 HRa c0 c1
    go_upto_region 10 with fail
    generalize W10.alloc (.cells #[.int .i64 0, .int .i64 0] 28) = W11 at *
    generalize W10.heap.size = g15 at *
    have c0 := HC11.out.cell 0
    have c1 := HC11.out.cell 1
    have x0 := HF11.out.cell 0
    have y0 := HG11.out.cell 0
    have z0 := HH11.out.cell 0
    have f2 := (bcell HB11.out hfb).trans HF0.out.2.2.1
    go_upto_region 13 with fail
    clear c0 c1 x0 y0 z0 f2 HF11 HG11 HH11
    have HPc : Hid (∀ (j : Nat) (x : Int), ps[j]? = some x → ∃ b off, pA = some ⟨b, off, none⟩ ∧ b < W11.heap.size ∧ W11.cell? ⟨b, off + j, none⟩ = some (.int .i64 x)) := Lib.hid (by
      obtain ⟨A', c', e, _, _, hcell⟩ := HP11.out
      obtain rfl : A' = pA := ((Value.slice.inj e).1).symm
      intro j x hx
      obtain ⟨b, off, e1, e2, e3⟩ := hcell (by have := (List.getElem?_eq_some_iff.1 hx).1; omega)
      exact ⟨b, off, e1, e2, e3 j x hx⟩)
    have HFl : Hid (fb < W11.heap.size) := Lib.hid (Nat.lt_of_lt_of_le hfb HB11.out.size)
    have HF11 : Hid (W11.cell? ⟨fb, fo + n * 4, none⟩ = some (.string f.name) ∧ W11.cell? ⟨fb, fo + n * 4 + 1, none⟩ = some (.int .i64 f.params) ∧ W11.cell? ⟨fb, fo + n * 4 + 2, none⟩ = some (.int .i64 (nr : Int)) ∧ W11.cell? ⟨fb, fo + n * 4 + 3, none⟩ = some (.slice bA f.blocks.length bc)) :=
      Lib.hid ⟨(bcell HB11.out hfb).trans HF0.out.1, (bcell HB11.out hfb).trans HF0.out.2.1, (bcell HB11.out hfb).trans HF0.out.2.2.1, (bcell HB11.out hfb).trans HF0.out.2.2.2⟩
    have HBs11 : Hid (BlksAt W11 W11.heap.size (.slice bA f.blocks.length bc) f.blocks) := Lib.hid (Hbs.out.move HB11.out.size (kept_of HB11.out (Nat.le_refl _)))
    have HCl := Lib.hid HC11.out.lt
    clear HF0 Hbs HP11 hfb
    go_loopg [16] nr (fun gk iv wr => ∃ r : Nat, r + gk = nr ∧ iv = .int .i64 (r : Int) ∧ Hid (Below W11.heap.size W11 wr))
    case atStart => exact ⟨0, by omega, rfl, Lib.hid (Below.refl _ _)⟩
    case round =>
      obtain ⟨r, hr, rfl, HBr⟩ := hrel
      rcases gk with _ | mk
      · have hrt : ¬ (r : Int) < (nr : Int) := by omega
        go_wp2_with fail
        go_ret
        exact ⟨rfl, HB11.out.trans (HBr.out.mono HB11.out.size)⟩
      · have hrt : (r : Int) < (nr : Int) := by omega
        have hr0 : (0 : Int) ≤ (r : Int) := Int.natCast_nonneg r
        have hrn : r < nr := by omega
        obtain ⟨x, hx⟩ : ∃ x, ps[r]? = some x := ⟨ps[r]'(by rw [Hpn.out]; exact hrn), List.getElem?_eq_getElem _⟩
        obtain ⟨pb, po, rfl, hpb, hpc⟩ := HPc.out r x hx
        have hat := HPt.out.at_ hmm2 hrn hx
        rw [Hpr.out r hrn] at hat
        have hpl : pb < wr.heap.size := Nat.lt_of_lt_of_le hpb HBr.out.size
        have hcl : w.heap.size < wr.heap.size := Nat.lt_of_lt_of_le HCl.out HBr.out.size
        have hfl : fb < wr.heap.size := Nat.lt_of_lt_of_le HFl.out HBr.out.size
        have pc0 := (bcell HBr.out hpb).trans hpc
        have c1 : wr.cell? ⟨w.heap.size, 1, none⟩ = some (.slice (some ⟨fb, fo, none⟩) l c) := (bcell HBr.out HCl.out).trans (HC11.out.cell 1)
        have f0 := (bcell HBr.out HFl.out).trans HF11.out.1
        have f1 := (bcell HBr.out HFl.out).trans HF11.out.2.1
        have f2 := (bcell HBr.out HFl.out).trans HF11.out.2.2.1
        have f3 := (bcell HBr.out HFl.out).trans HF11.out.2.2.2
        have HBsr : Hid (BlksAt wr wr.heap.size (.slice bA f.blocks.length bc) f.blocks) := Lib.hid (HBs11.out.move HBr.out.size (kept_of HBr.out (Nat.le_refl _)))
        obtain ⟨q, hq⟩ : ∃ q, cnt (occBs f.blocks) (r : Int) = q := ⟨_, rfl⟩
        obtain ⟨il, hil⟩ : ∃ il, inU f.blocks 0 (r : Int) = il := ⟨_, rfl⟩
        rw [hq, hil] at hat
        have HWo := Lib.hid (fun W (hb : Below wr.heap.size wr W) => WeightOf_any f.name f.params (nr : Int) bA f.blocks.length bc f.blocks (r : Int) W (HBsr.out.move hb.size (kept_of hb (Nat.le_refl _))) hr0 Hfew.out)
        rw [hq] at HWo
        have HLr : Hid (∀ W, Below wr.heap.size wr W → Calls Tryz.prog 13 #[.agg #[.string f.name, .int .i64 f.params, .int .i64 (nr : Int), .slice bA f.blocks.length bc], .int .i64 (r : Int)] W fun e w' => ∃ b0 n0 c0 b1 n1 c1, e = .returned (.slice (some ⟨b0, 0, none⟩) n0 c0) ∧ (0 < n0 ∧ 0 < n1) ∧
            w'.cell? ⟨b0, 0, none⟩ = some (.slice (some ⟨b1, 0, none⟩) n1 c1) ∧ w'.cell? ⟨b1, 0, none⟩ = some (.bool il) ∧ (n0 ≤ 1000 ∧ n1 ≤ 9000000000000000000) ∧ Below W.heap.size W w') := Lib.hid (fun W hb => by
          refine (LiveReg_any f.name f.params (nr : Int) bA f.blocks.length bc f.blocks (r : Int) W (HBsr.out.move hb.size (kept_of hb (Nat.le_refl _))) Hfl.out.1 Hfl.out.2.2).mono ?_
          rintro e w' ⟨v, gs', rfl, hv, hl', hg', hb'⟩
          obtain ⟨A', c', rfl⟩ := hv.form
          obtain ⟨g0, g, rfl, hg0, hc0, _, hgb⟩ := hv.cell (i := 0) (by have := Hfl.out; omega)
          have hg2 := hg' 0 g hg0
          have hbl : g.2 ≤ 9000000000000000000 := by
            obtain ⟨b0, hb0⟩ : ∃ b0, f.blocks[0]? = some b0 := ⟨_, List.getElem?_eq_getElem (by have := Hfl.out; omega)⟩
            rw [hg2, lenR_some hb0]
            have h1 := (HBsr.out.at hb0)
            obtain ⟨_, _, _, _, us, hus, _⟩ := h1
            obtain ⟨pv', lv', tv', _, _, hl2, _⟩ := hus
            obtain ⟨_, _, _, _, h3, _⟩ := SlAt.form hl2
            omega
          have hk1 := (hgb.cell 0).trans (boolsT_at (rowB_at (f := fun k => atU f.blocks 0 k (r : Int)) (show 0 < g.2 by rw [hg2]; omega)))
          rw [atU_zero, hil] at hk1
          exact ⟨g0, gs'.length, c', g.1, g.2, g.2, rfl, ⟨by have := Hfl.out; omega, by rw [hg2]; omega⟩, hc0, hk1, ⟨by have := Hfl.out; omega, hbl⟩, hb'⟩)
        clear hpb hpc hq hil
        go_upto_region 15 with fail
        go_cut [123] from 96 to 123 (fun s wx => s = .bool false ∧ Hid (Below W11.heap.size W11 wx))
        case first =>
          by_cases hq0 : q = 0
          · have HA0 : Hid (q = 0 ∧ (x == -1) = !il) := Lib.hid ⟨hq0, by
              rcases hat with ⟨h1, h2⟩ | ⟨h1, h2, _⟩
              · rw [hq0] at h2
                have h3 : il = false := by simpa using h2
                rw [h3, h1]
                rfl
              · rw [hq0] at h2
                have h3 : il = true := by simpa using h2
                rw [h3]
                have : x ≠ -1 := by omega
                simpa using this⟩
            clear hq0 hat
            obtain ⟨hqz, hxl⟩ : q = 0 ∧ (x == -1) = !il := HA0.out
            subst hqz
            obtain ⟨pw, hp0, hp1, hp2, hp3, hp4, hp5, hp6, hp7, hp8, hp9, hp10, hp11, hp12, hp13, hp14, hp15, hp16, hp17, hp18, hp19, hp24, hp25, hp26, hp27, hp20, hp21, hp22, hp23⟩ : ∃ pw : Nat → Option Value, pw 0 = some (.slice (some ⟨pb, po, none⟩) nr pc) ∧ pw 1 = some (.int .i64 (r : Int)) ∧ pw 2 = some (.pointer (some ⟨pb, po + r, none⟩)) ∧ pw 3 = some (.int .i64 x) ∧ pw 4 = some (.bool (!il)) ∧ pw 5 = some (.pointer (some ⟨w.heap.size, 1, none⟩)) ∧ pw 6 = some (.slice (some ⟨fb, fo, none⟩) l c) ∧ pw 7 = some (.int .i64 (n : Int)) ∧ pw 8 = some (.pointer (some ⟨fb, fo + n * 4, none⟩)) ∧ pw 9 = some (.agg #[.string f.name, .int .i64 f.params, .int .i64 (nr : Int), .slice bA f.blocks.length bc]) ∧ pw 10 = some (.int .i64 (r : Int)) ∧ pw 11 = some (.int .i64 0) ∧ pw 12 = some (.bool true) ∧ pw 13 = some (.bool true) ∧ pw 14 = some (.pointer (some ⟨w.heap.size, 1, none⟩)) ∧ pw 15 = some (.slice (some ⟨fb, fo, none⟩) l c) ∧ pw 16 = some (.int .i64 (n : Int)) ∧ pw 17 = some (.pointer (some ⟨fb, fo + n * 4, none⟩)) ∧ pw 18 = some (.agg #[.string f.name, .int .i64 f.params, .int .i64 (nr : Int), .slice bA f.blocks.length bc]) ∧ pw 19 = some (.int .i64 (r : Int)) ∧ pw 24 = some (.bool il) ∧ pw 25 = some (.bool (!il)) ∧ pw 26 = some (.bool (!il)) ∧ pw 27 = some (.bool false) ∧ pw 20 = none ∧ pw 21 = none ∧ pw 22 = none ∧ pw 23 = none := ⟨fun j => match j with | 0 => some (.slice (some ⟨pb, po, none⟩) nr pc) | 1 => some (.int .i64 (r : Int)) | 2 => some (.pointer (some ⟨pb, po + r, none⟩)) | 3 => some (.int .i64 x) | 4 => some (.bool (!il)) | 5 => some (.pointer (some ⟨w.heap.size, 1, none⟩)) | 6 => some (.slice (some ⟨fb, fo, none⟩) l c) | 7 => some (.int .i64 (n : Int)) | 8 => some (.pointer (some ⟨fb, fo + n * 4, none⟩)) | 9 => some (.agg #[.string f.name, .int .i64 f.params, .int .i64 (nr : Int), .slice bA f.blocks.length bc]) | 10 => some (.int .i64 (r : Int)) | 11 => some (.int .i64 0) | 12 => some (.bool true) | 13 => some (.bool true) | 14 => some (.pointer (some ⟨w.heap.size, 1, none⟩)) | 15 => some (.slice (some ⟨fb, fo, none⟩) l c) | 16 => some (.int .i64 (n : Int)) | 17 => some (.pointer (some ⟨fb, fo + n * 4, none⟩)) | 18 => some (.agg #[.string f.name, .int .i64 f.params, .int .i64 (nr : Int), .slice bA f.blocks.length bc]) | 19 => some (.int .i64 (r : Int)) | 24 => some (.bool il) | 25 => some (.bool (!il)) | 26 => some (.bool (!il)) | 27 => some (.bool false) | _ => none, rfl, rfl, rfl, rfl, rfl, rfl, rfl, rfl, rfl, rfl, rfl, rfl, rfl, rfl, rfl, rfl, rfl, rfl, rfl, rfl, rfl, rfl, rfl, rfl, rfl, rfl, rfl, rfl⟩
            have P0 := Lib.hid hp0
            have P1 := Lib.hid hp1
            have P2 := Lib.hid hp2
            have P3 := Lib.hid hp3
            have P4 := Lib.hid hp4
            have P5 := Lib.hid hp5
            have P6 := Lib.hid hp6
            have P7 := Lib.hid hp7
            have P8 := Lib.hid hp8
            have P9 := Lib.hid hp9
            have P10 := Lib.hid hp10
            have P11 := Lib.hid hp11
            have P12 := Lib.hid hp12
            have P13 := Lib.hid hp13
            have P14 := Lib.hid hp14
            have P15 := Lib.hid hp15
            have P16 := Lib.hid hp16
            have P17 := Lib.hid hp17
            have P18 := Lib.hid hp18
            have P19 := Lib.hid hp19
            have P24 := Lib.hid hp24
            have P25 := Lib.hid hp25
            have P26 := Lib.hid hp26
            have P27 := Lib.hid hp27
            have P20 := Lib.hid hp20
            have P21 := Lib.hid hp21
            have P22 := Lib.hid hp22
            have P23 := Lib.hid hp23
            clear hp0 hp1 hp2 hp3 hp4 hp5 hp6 hp7 hp8 hp9 hp10 hp11 hp12 hp13 hp14 hp15 hp16 hp17 hp18 hp19 hp24 hp25 hp26 hp27 hp20 hp21 hp22 hp23
            have HS0 : Hid (AskRun pw wr il (fun _ => none) { wr with drawn := wr.drawn + 1 }) := Lib.hid (AskRun.start (below_drew (Below.refl _ _)))
            refine wp_region_keepsG (AskRun pw wr il) (by kernel_rfl) (by kernel_rfl) HS0.out ?_ ?_
            · refine ⟨KeepsG.plain rfl ?_, KeepsG.plain rfl ?_, KeepsG.plain rfl ?_, KeepsG.plain rfl ?_, KeepsG.plain rfl ?_, KeepsG.plain rfl ?_, KeepsG.plain rfl ?_, KeepsG.plain rfl ?_, KeepsG.plain rfl ?_, KeepsG.plain rfl ?_, KeepsG.plain rfl ?_, KeepsG.plain rfl ?_, KeepsG.plain rfl ?_, KeepsG.plain rfl ?_, KeepsG.want 13 true _ 109 rfl rfl rfl (by simp) rfl (fun σ w u _ hC _ hu => hC.val hu P13.out) ?_, KeepsG.want 13 true _ 109 rfl rfl rfl (by simp) rfl (fun σ w u _ hC _ hu => hC.val hu P13.out) ?_, KeepsG.want 13 true _ 109 rfl rfl rfl (by simp) rfl (fun σ w u _ hC _ hu => hC.val hu P13.out) ?_, KeepsG.want 13 true _ 109 rfl rfl rfl (by simp) rfl (fun σ w u _ hC _ hu => hC.val hu P13.out) ?_, KeepsG.want 13 true _ 109 rfl rfl rfl (by simp) rfl (fun σ w u _ hC _ hu => hC.val hu P13.out) ?_, KeepsG.want 13 true _ 109 rfl rfl rfl (by simp) rfl (fun σ w u _ hC _ hu => hC.val hu P13.out) ?_, KeepsG.want 13 true _ 109 rfl rfl rfl (by simp) rfl (fun σ w u _ hC _ hu => hC.val hu P13.out) ?_, KeepsG.want 13 true _ 109 rfl rfl rfl (by simp) rfl (fun σ w u _ hC _ hu => hC.val hu P13.out) ?_, KeepsG.want 13 true _ 109 rfl rfl rfl (by simp) rfl (fun σ w u _ hC _ hu => hC.val hu P13.out) ?_, KeepsG.want 13 true _ 109 rfl rfl rfl (by simp) rfl (fun σ w u _ hC _ hu => hC.val hu P13.out) ?_, KeepsG.want 13 true _ 109 rfl rfl rfl (by simp) rfl (fun σ w u _ hC _ hu => hC.val hu P13.out) ?_, KeepsG.want 13 true _ 109 rfl rfl rfl (by simp) rfl (fun σ w u _ hC _ hu => hC.val hu P13.out) ?_, KeepsG.plain rfl ?_, KeepsG.plain rfl ?_, trivial⟩
              all_goals
                intro σ vs w' hvs hcl' hC hk hdep
                simp only [putO, Act.put, List.setIfInBounds_toArray, List.set_cons_succ, List.set_cons_zero, Nat.reduceAdd]
                have HC := Lib.hid hC
                have HD := Lib.hid hdep
                have HL := Lib.hid hcl'
                have HS := Lib.hid hk
                clear hC hdep hcl' hk hvs
              · go_simp
                exact HC.out.say P0.out (by decide) (Below.refl _ _)
              · go_simp
                exact HC.out.say P1.out (by decide) (Below.refl _ _)
              · rw [HC.out.val (HD.out ⟨0, .data⟩ (by simp) rfl) P0.out, HC.out.val (HD.out ⟨1, .data⟩ (by simp) rfl) P1.out]
                go_simp
                exact HC.out.say P2.out (by decide) (Below.refl _ _)
              · rw [HC.out.val (HD.out ⟨2, .data⟩ (by simp) rfl) P2.out]
                have pc0 := (bcell HC.out.low hpl).trans pc0
                go_simp
                exact HC.out.say P3.out (by decide) (Below.refl _ _)
              · rw [HC.out.val (HD.out ⟨3, .data⟩ (by simp) rfl) P3.out]
                go_simp
                exact HC.out.say P4.out (by decide) (Below.refl _ _)
              · go_simp
                exact HC.out.say P5.out (by decide) (Below.refl _ _)
              · rw [HC.out.val (HD.out ⟨5, .data⟩ (by simp) rfl) P5.out]
                have c1 := (bcell HC.out.low hcl).trans c1
                go_simp
                exact HC.out.say P6.out (by decide) (Below.refl _ _)
              · go_simp
                exact HC.out.say P7.out (by decide) (Below.refl _ _)
              · rw [HC.out.val (HD.out ⟨6, .data⟩ (by simp) rfl) P6.out, HC.out.val (HD.out ⟨7, .data⟩ (by simp) rfl) P7.out]
                go_simp
                exact HC.out.say P8.out (by decide) (Below.refl _ _)
              · rw [HC.out.val (HD.out ⟨8, .data⟩ (by simp) rfl) P8.out]
                have f0 := (bcell HC.out.low hfl).trans f0
                have f1 := (bcell HC.out.low hfl).trans f1
                have f2 := (bcell HC.out.low hfl).trans f2
                have f3 := (bcell HC.out.low hfl).trans f3
                go_simp
                exact HC.out.say P9.out (by decide) (Below.refl _ _)
              · go_simp
                exact HC.out.say P10.out (by decide) (Below.refl _ _)
              · rw [HC.out.val (HD.out ⟨9, .data⟩ (by simp) rfl) P9.out, HC.out.val (HD.out ⟨10, .data⟩ (by simp) rfl) P10.out]
                have HWc := Lib.hid (HWo.out w' HC.out.low)
                go_simp
                refine HWc.out.mono ?_
                rintro e w2 ⟨rfl, hb⟩
                exact ⟨_, rfl, HC.out.say P11.out (by decide) hb⟩
              · rw [HC.out.val (HD.out ⟨11, .data⟩ (by simp) rfl) P11.out]
                go_simp
                exact HC.out.say P12.out (by decide) (Below.refl _ _)
              · rw [HC.out.val (HD.out ⟨12, .data⟩ (by simp) rfl) P12.out]
                go_simp
                exact HC.out.say P13.out (by decide) (Below.refl _ _)
              · go_simp
                exact HC.out.say P14.out (by decide) (Below.refl _ _)
              · rw [HC.out.val (HD.out ⟨14, .data⟩ (by simp) rfl) P14.out]
                have c1 := (bcell HC.out.low hcl).trans c1
                go_simp
                exact HC.out.say P15.out (by decide) (Below.refl _ _)
              · go_simp
                exact HC.out.say P16.out (by decide) (Below.refl _ _)
              · rw [HC.out.val (HD.out ⟨15, .data⟩ (by simp) rfl) P15.out, HC.out.val (HD.out ⟨16, .data⟩ (by simp) rfl) P16.out]
                go_simp
                exact HC.out.say P17.out (by decide) (Below.refl _ _)
              · rw [HC.out.val (HD.out ⟨17, .data⟩ (by simp) rfl) P17.out]
                have f0 := (bcell HC.out.low hfl).trans f0
                have f1 := (bcell HC.out.low hfl).trans f1
                have f2 := (bcell HC.out.low hfl).trans f2
                have f3 := (bcell HC.out.low hfl).trans f3
                go_simp
                exact HC.out.say P18.out (by decide) (Below.refl _ _)
              · go_simp
                exact HC.out.say P19.out (by decide) (Below.refl _ _)
              · rw [HC.out.val (HD.out ⟨18, .data⟩ (by simp) rfl) P18.out, HC.out.val (HD.out ⟨19, .data⟩ (by simp) rfl) P19.out]
                have HLc := Lib.hid (HLr.out w' HC.out.low)
                go_simp
                refine HLc.out.mono ?_
                rintro e w2 ⟨b0, n0, c0, b1, n1, c1, rfl, hn, k0, k1, hs, hb⟩
                have n21 := not_done HL.out HS.out (j := 21) rfl rfl
                have n22 := not_done HL.out n21 (j := 22) rfl rfl
                exact ⟨_, rfl, HC.out.call P20.out n21 n22 (not_done HL.out n22 (j := 23) rfl rfl) hb hn k0 k1 hs⟩
              · obtain ⟨b0, n0, c0, e0, h0n, h0m, hh⟩ := HC.out.at0 (HD.out ⟨20, .data⟩ (by simp) rfl) P21.out
                rw [show vs 20 = _ from e0]
                have HH := Lib.hid hh
                have hn0 : (0 : Int) < (n0 : Int) := by omega
                clear hh e0
                go_simp
                exact HH.out
              · have h21 := HD.out ⟨21, .data⟩ (by simp) rfl
                obtain ⟨v20, h20⟩ := was_done (k := 20) HL.out h21 rfl rfl
                obtain ⟨b0, b1, n1, c1, e1, k0, hh⟩ := HC.out.at1 h20 h21 P22.out
                rw [show vs 21 = _ from e1]
                have HH := Lib.hid hh
                clear hh e1 h20 h21
                go_simp
                exact HH.out
              · have h22 := HD.out ⟨22, .data⟩ (by simp) rfl
                obtain ⟨v21, h21⟩ := was_done (k := 21) HL.out h22 rfl rfl
                obtain ⟨v20, h20⟩ := was_done (k := 20) HL.out h21 rfl rfl
                obtain ⟨b1, n1, c1, e1, h0n, h0m, hh⟩ := HC.out.at2 h20 h22 P23.out
                rw [show vs 22 = _ from e1]
                have HH := Lib.hid hh
                have hn0 : (0 : Int) < (n1 : Int) := by omega
                clear hh e1 h20 h21 h22
                go_simp
                exact HH.out
              · have h23 := HD.out ⟨23, .data⟩ (by simp) rfl
                obtain ⟨v22, h22⟩ := was_done (k := 22) HL.out h23 rfl rfl
                obtain ⟨v21, h21⟩ := was_done (k := 21) HL.out h22 rfl rfl
                obtain ⟨v20, h20⟩ := was_done (k := 20) HL.out h21 rfl rfl
                obtain ⟨b1, e1, k1⟩ := HC.out.at3 h20 h23
                rw [show vs 23 = _ from e1]
                clear e1 h20 h21 h22 h23
                go_simp
                exact HC.out.say P24.out (by decide) (Below.refl _ _)
              · rw [HC.out.val (HD.out ⟨24, .data⟩ (by simp) rfl) P24.out]
                go_simp
                exact HC.out.say P25.out (by decide) (Below.refl _ _)
              · rw [HC.out.val (HD.out ⟨13, .data⟩ (by simp) rfl) P13.out, HC.out.val (HD.out ⟨25, .data⟩ (by simp) rfl) P25.out]
                go_simp
                exact HC.out.say P26.out (by decide) (Below.refl _ _)
              · rw [HC.out.val (HD.out ⟨4, .data⟩ (by simp) rfl) P4.out, HC.out.val (HD.out ⟨26, .data⟩ (by simp) rfl) P26.out]
                go_simp
                exact HC.out.say P27.out (by decide) (Below.refl _ _)
            intro σ vs w9 hC hall
            have e27 := hC.val (hall 27 (by decide)) P27.out
            have HB9 := Lib.hid (HBr.out.trans (hC.low.mono HBr.out.size))
            simp only [putO, Act.put, List.setIfInBounds_toArray, List.set_cons_succ, List.set_cons_zero, Nat.reduceAdd]
            rw [show vs 27 = _ from e27]
            go_wp2_with fail
            go_meet
            exact ⟨rfl, HB9⟩
          · have HA0 : Hid ((x == -1) = false ∧ (q == 0) = false) := Lib.hid ⟨by
              rcases hat with ⟨h1, h2⟩ | ⟨h1, h2, _⟩
              · have h3 : decide (q ≠ 0) = true := decide_eq_true hq0
                rw [h3] at h2
                cases h2
              · have : x ≠ -1 := by omega
                simpa using this, by simpa using hq0⟩
            clear hq0 hat
            obtain ⟨hxm, hqz⟩ : (x == -1) = false ∧ (q == 0) = false := HA0.out
            obtain ⟨pw, hp0, hp1, hp2, hp3, hp4, hp5, hp6, hp7, hp8, hp9, hp10, hp11, hp12, hp13, hp14, hp15, hp16, hp17, hp18, hp19, hp20, hp21, hp22, hp23, hp24, hp25, hp26, hp27⟩ : ∃ pw : Nat → Option Value, pw 0 = some (.slice (some ⟨pb, po, none⟩) nr pc) ∧ pw 1 = some (.int .i64 (r : Int)) ∧ pw 2 = some (.pointer (some ⟨pb, po + r, none⟩)) ∧ pw 3 = some (.int .i64 x) ∧ pw 4 = some (.bool false) ∧ pw 5 = some (.pointer (some ⟨w.heap.size, 1, none⟩)) ∧ pw 6 = some (.slice (some ⟨fb, fo, none⟩) l c) ∧ pw 7 = some (.int .i64 (n : Int)) ∧ pw 8 = some (.pointer (some ⟨fb, fo + n * 4, none⟩)) ∧ pw 9 = some (.agg #[.string f.name, .int .i64 f.params, .int .i64 (nr : Int), .slice bA f.blocks.length bc]) ∧ pw 10 = some (.int .i64 (r : Int)) ∧ pw 11 = some (.int .i64 q) ∧ pw 12 = some (.bool false) ∧ pw 13 = some (.bool false) ∧ pw 14 = some undef ∧ pw 15 = some undef ∧ pw 16 = some undef ∧ pw 17 = some undef ∧ pw 18 = some undef ∧ pw 19 = some undef ∧ pw 20 = some undef ∧ pw 21 = some undef ∧ pw 22 = some undef ∧ pw 23 = some undef ∧ pw 24 = some undef ∧ pw 25 = some undef ∧ pw 26 = some (.bool false) ∧ pw 27 = some (.bool false) := ⟨fun j => match j with | 0 => some (.slice (some ⟨pb, po, none⟩) nr pc) | 1 => some (.int .i64 (r : Int)) | 2 => some (.pointer (some ⟨pb, po + r, none⟩)) | 3 => some (.int .i64 x) | 4 => some (.bool false) | 5 => some (.pointer (some ⟨w.heap.size, 1, none⟩)) | 6 => some (.slice (some ⟨fb, fo, none⟩) l c) | 7 => some (.int .i64 (n : Int)) | 8 => some (.pointer (some ⟨fb, fo + n * 4, none⟩)) | 9 => some (.agg #[.string f.name, .int .i64 f.params, .int .i64 (nr : Int), .slice bA f.blocks.length bc]) | 10 => some (.int .i64 (r : Int)) | 11 => some (.int .i64 q) | 12 => some (.bool false) | 13 => some (.bool false) | 14 => some undef | 15 => some undef | 16 => some undef | 17 => some undef | 18 => some undef | 19 => some undef | 20 => some undef | 21 => some undef | 22 => some undef | 23 => some undef | 24 => some undef | 25 => some undef | 26 => some (.bool false) | 27 => some (.bool false) | _ => none, rfl, rfl, rfl, rfl, rfl, rfl, rfl, rfl, rfl, rfl, rfl, rfl, rfl, rfl, rfl, rfl, rfl, rfl, rfl, rfl, rfl, rfl, rfl, rfl, rfl, rfl, rfl, rfl⟩
            have P0 := Lib.hid hp0
            have P1 := Lib.hid hp1
            have P2 := Lib.hid hp2
            have P3 := Lib.hid hp3
            have P4 := Lib.hid hp4
            have P5 := Lib.hid hp5
            have P6 := Lib.hid hp6
            have P7 := Lib.hid hp7
            have P8 := Lib.hid hp8
            have P9 := Lib.hid hp9
            have P10 := Lib.hid hp10
            have P11 := Lib.hid hp11
            have P12 := Lib.hid hp12
            have P13 := Lib.hid hp13
            have P14 := Lib.hid hp14
            have P15 := Lib.hid hp15
            have P16 := Lib.hid hp16
            have P17 := Lib.hid hp17
            have P18 := Lib.hid hp18
            have P19 := Lib.hid hp19
            have P20 := Lib.hid hp20
            have P21 := Lib.hid hp21
            have P22 := Lib.hid hp22
            have P23 := Lib.hid hp23
            have P24 := Lib.hid hp24
            have P25 := Lib.hid hp25
            have P26 := Lib.hid hp26
            have P27 := Lib.hid hp27
            clear hp0 hp1 hp2 hp3 hp4 hp5 hp6 hp7 hp8 hp9 hp10 hp11 hp12 hp13 hp14 hp15 hp16 hp17 hp18 hp19 hp20 hp21 hp22 hp23 hp24 hp25 hp26 hp27
            have HS0 : Hid (KnownRun pw wr (fun _ => none) { wr with drawn := wr.drawn + 1 }) := Lib.hid (KnownRun.start (below_drew (Below.refl _ _)))
            refine wp_region_keepsG (KnownRun pw wr) (by kernel_rfl) (by kernel_rfl) HS0.out ?_ ?_
            · refine ⟨KeepsG.plain rfl ?_, KeepsG.plain rfl ?_, KeepsG.plain rfl ?_, KeepsG.plain rfl ?_, KeepsG.plain rfl ?_, KeepsG.plain rfl ?_, KeepsG.plain rfl ?_, KeepsG.plain rfl ?_, KeepsG.plain rfl ?_, KeepsG.plain rfl ?_, KeepsG.plain rfl ?_, KeepsG.plain rfl ?_, KeepsG.plain rfl ?_, KeepsG.plain rfl ?_, KeepsG.skip 13 true _ 109 rfl rfl rfl (by simp) rfl (fun σ w u _ hC _ hu => hC.val hu P13.out) (KnownRun.skip _ P14.out), KeepsG.skip 13 true _ 109 rfl rfl rfl (by simp) rfl (fun σ w u _ hC _ hu => hC.val hu P13.out) (KnownRun.skip _ P15.out), KeepsG.skip 13 true _ 109 rfl rfl rfl (by simp) rfl (fun σ w u _ hC _ hu => hC.val hu P13.out) (KnownRun.skip _ P16.out), KeepsG.skip 13 true _ 109 rfl rfl rfl (by simp) rfl (fun σ w u _ hC _ hu => hC.val hu P13.out) (KnownRun.skip _ P17.out), KeepsG.skip 13 true _ 109 rfl rfl rfl (by simp) rfl (fun σ w u _ hC _ hu => hC.val hu P13.out) (KnownRun.skip _ P18.out), KeepsG.skip 13 true _ 109 rfl rfl rfl (by simp) rfl (fun σ w u _ hC _ hu => hC.val hu P13.out) (KnownRun.skip _ P19.out), KeepsG.skip 13 true _ 109 rfl rfl rfl (by simp) rfl (fun σ w u _ hC _ hu => hC.val hu P13.out) (KnownRun.skip _ P20.out), KeepsG.skip 13 true _ 109 rfl rfl rfl (by simp) rfl (fun σ w u _ hC _ hu => hC.val hu P13.out) (KnownRun.skip _ P21.out), KeepsG.skip 13 true _ 109 rfl rfl rfl (by simp) rfl (fun σ w u _ hC _ hu => hC.val hu P13.out) (KnownRun.skip _ P22.out), KeepsG.skip 13 true _ 109 rfl rfl rfl (by simp) rfl (fun σ w u _ hC _ hu => hC.val hu P13.out) (KnownRun.skip _ P23.out), KeepsG.skip 13 true _ 109 rfl rfl rfl (by simp) rfl (fun σ w u _ hC _ hu => hC.val hu P13.out) (KnownRun.skip _ P24.out), KeepsG.skip 13 true _ 109 rfl rfl rfl (by simp) rfl (fun σ w u _ hC _ hu => hC.val hu P13.out) (KnownRun.skip _ P25.out), KeepsG.plain rfl ?_, KeepsG.plain rfl ?_, trivial⟩
              all_goals
                intro σ vs w' hvs hcl' hC hk hdep
                simp only [putO, Act.put, List.setIfInBounds_toArray, List.set_cons_succ, List.set_cons_zero, Nat.reduceAdd]
                have HC := Lib.hid hC
                have HD := Lib.hid hdep
                have HL := Lib.hid hcl'
                have HS := Lib.hid hk
                clear hC hdep hcl' hk hvs
              · go_simp
                exact HC.out.say P0.out (Below.refl _ _)
              · go_simp
                exact HC.out.say P1.out (Below.refl _ _)
              · rw [HC.out.val (HD.out ⟨0, .data⟩ (by simp) rfl) P0.out, HC.out.val (HD.out ⟨1, .data⟩ (by simp) rfl) P1.out]
                go_simp
                exact HC.out.say P2.out (Below.refl _ _)
              · rw [HC.out.val (HD.out ⟨2, .data⟩ (by simp) rfl) P2.out]
                have pc0 := (bcell HC.out.low hpl).trans pc0
                go_simp
                exact HC.out.say P3.out (Below.refl _ _)
              · rw [HC.out.val (HD.out ⟨3, .data⟩ (by simp) rfl) P3.out]
                go_simp
                exact HC.out.say P4.out (Below.refl _ _)
              · go_simp
                exact HC.out.say P5.out (Below.refl _ _)
              · rw [HC.out.val (HD.out ⟨5, .data⟩ (by simp) rfl) P5.out]
                have c1 := (bcell HC.out.low hcl).trans c1
                go_simp
                exact HC.out.say P6.out (Below.refl _ _)
              · go_simp
                exact HC.out.say P7.out (Below.refl _ _)
              · rw [HC.out.val (HD.out ⟨6, .data⟩ (by simp) rfl) P6.out, HC.out.val (HD.out ⟨7, .data⟩ (by simp) rfl) P7.out]
                go_simp
                exact HC.out.say P8.out (Below.refl _ _)
              · rw [HC.out.val (HD.out ⟨8, .data⟩ (by simp) rfl) P8.out]
                have f0 := (bcell HC.out.low hfl).trans f0
                have f1 := (bcell HC.out.low hfl).trans f1
                have f2 := (bcell HC.out.low hfl).trans f2
                have f3 := (bcell HC.out.low hfl).trans f3
                go_simp
                exact HC.out.say P9.out (Below.refl _ _)
              · go_simp
                exact HC.out.say P10.out (Below.refl _ _)
              · rw [HC.out.val (HD.out ⟨9, .data⟩ (by simp) rfl) P9.out, HC.out.val (HD.out ⟨10, .data⟩ (by simp) rfl) P10.out]
                have HWc := Lib.hid (HWo.out w' HC.out.low)
                go_simp
                refine HWc.out.mono ?_
                rintro e w2 ⟨rfl, hb⟩
                exact ⟨_, rfl, HC.out.say P11.out hb⟩
              · rw [HC.out.val (HD.out ⟨11, .data⟩ (by simp) rfl) P11.out]
                go_simp
                exact HC.out.say P12.out (Below.refl _ _)
              · rw [HC.out.val (HD.out ⟨12, .data⟩ (by simp) rfl) P12.out]
                go_simp
                exact HC.out.say P13.out (Below.refl _ _)
              · rw [HC.out.val (HD.out ⟨13, .data⟩ (by simp) rfl) P13.out]
                go_simp
                exact HC.out.say P26.out (Below.refl _ _)
              · rw [HC.out.val (HD.out ⟨4, .data⟩ (by simp) rfl) P4.out, HC.out.val (HD.out ⟨26, .data⟩ (by simp) rfl) P26.out]
                go_simp
                exact HC.out.say P27.out (Below.refl _ _)
            intro σ vs w9 hC hall
            have e27 := hC.val (hall 27 (by decide)) P27.out
            have HB9 := Lib.hid (HBr.out.trans (hC.low.mono HBr.out.size))
            simp only [putO, Act.put, List.setIfInBounds_toArray, List.set_cons_succ, List.set_cons_zero, Nat.reduceAdd]
            rw [show vs 27 = _ from e27]
            go_wp2_with fail
            go_meet
            exact ⟨rfl, HB9⟩
        case rest =>
          obtain ⟨rfl, HBc⟩ := hcut
          have hat := HPt.out.at_ hmm2 hrn hx
          have pc0 : wc.cell? ⟨pb, po + r, none⟩ = some (.int .i64 x) := by
            obtain ⟨b', o', e, hb', hc'⟩ := HPc.out r x hx
            injection e with e
            injection e with e1 e2
            subst e1
            subst e2
            exact (bcell HBc.out hb').trans hc'
          obtain ⟨row, hrw⟩ : ∃ row, listS nr (ofS f.blocks (r : Int)) = row := ⟨_, rfl⟩
          have hrow := Hrow.out r hrn
          rw [hrw] at hrow
          obtain ⟨_, rb, ro, rv0, row', rfl, hrb, hrr, hrc0, hri⟩ := HR11.out.at_ hrn
          obtain rfl : row = row' := by rw [hrow] at hrr; exact Option.some.inj hrr
          have HFar := Lib.hid (fun (h0 : 0 ≤ x) (o : Nat) (ho : (o : Int) ∈ row) (y : Int) (hy : ps[o]? = some y) => HPt.out.far hrn hx h0 hrow ho hy)
          have Hrr : Hid (∀ o ∈ row, 0 ≤ o ∧ o < (nr : Int)) := Lib.hid (fun o ho => by rw [← hrw, listS_mem] at ho; exact ⟨ho.1, ho.2.1⟩)
          have hrl : row.length ≤ 100 := by
            have := listS_len nr (ofS f.blocks (r : Int))
            rw [hrw] at this
            omega
          obtain ⟨qA, qc, rfl, _, _, hqc⟩ := id hri
          obtain ⟨ln, hln⟩ : ∃ ln, row.length = ln := ⟨_, rfl⟩
          rw [hln] at hrl hrc0 hqc
          have Hln := Lib.hid hln
          have Hqc := Lib.hid hqc
          have Hrc := Lib.hid (And.intro hrb hrc0)
          have Hx := Lib.hid hx
          clear hln hqc hrb hrc0 hri hrr hrow hrw hx HWo HLr
          go_upto_region 17 with fail
          go_cut [163] from 124 to 163 (fun s wx => s = .bool false ∧ wx = wc)
          case first =>
            rcases hat with ⟨h1, _⟩ | ⟨h1, _, h2⟩
            · have g0 : ¬ x ≥ 0 := by omega
              have g1 : ¬ x < -1 := by omega
              clear h1
              go_wp2_with fail
              go_meet
              first | exact ⟨rfl, rfl⟩ | exact ⟨(by rw [decide_eq_false (by omega), decide_eq_false (by omega)]; rfl), rfl⟩ | exact ⟨(by rw [decide_eq_false (by omega)]), rfl⟩
            · have g0 : x ≥ 0 := by omega
              have g1 : ¬ x < -1 := by omega
              by_cases g2 : x < 16
              · have h3 : x ∈ givenS mm ∧ (6 ≤ x ∨ (r : Int) ∉ acrossF gs fs (n : Int)) := by
                  rcases h2 with h2 | h2
                  · exact h2
                  · omega
                have hgv := RGiven_any mm x wc hmm1 hmm2 ⟨by omega, by omega⟩
                rw [hasN_iff.2 h3.1] at hgv
                have HGv := Lib.hid hgv
                have hhs := hasInt_any _ _ (r : Int) _ wc (HA11.out.move HBc.out.size (kept_of HBc.out (Nat.le_refl _)))
                have h4 := h3.2
                clear hgv h1 h2 h3
                go_wp2_with fail
                refine HGv.out.mono ?_
                rintro e w' ⟨rfl, rfl⟩
                cases hh : hasN (acrossF gs fs (n : Int)) (r : Int) with
                | true =>
                  rw [hh] at hhs
                  have HHs := Lib.hid hhs
                  have g6 : ¬ x < 6 := by
                    rcases h4 with h4 | h4
                    · omega
                    · exact absurd (hasN_iff.1 hh) h4
                  clear hhs hh h4
                  go_wp2_with fail
                  refine HHs.out.mono ?_
                  rintro e w' ⟨rfl, rfl⟩
                  go_wp2_with fail
                  go_meet
                  first | exact ⟨rfl, rfl⟩ | exact ⟨(by rw [decide_eq_false (by omega), decide_eq_false (by omega)]; rfl), rfl⟩ | exact ⟨(by rw [decide_eq_false (by omega)]), rfl⟩
                | false =>
                  rw [hh] at hhs
                  have HHs := Lib.hid hhs
                  clear hhs hh h4
                  go_wp2_with fail
                  refine HHs.out.mono ?_
                  rintro e w' ⟨rfl, rfl⟩
                  go_wp2_with fail
                  go_meet
                  first | exact ⟨rfl, rfl⟩ | exact ⟨(by rw [decide_eq_false (by omega), decide_eq_false (by omega)]; rfl), rfl⟩ | exact ⟨(by rw [decide_eq_false (by omega)]), rfl⟩
              · clear h1 h2
                go_wp2_with fail
                go_meet
                first | exact ⟨rfl, rfl⟩ | exact ⟨(by rw [decide_eq_false (by omega), decide_eq_false (by omega)]; rfl), rfl⟩ | exact ⟨(by rw [decide_eq_false (by omega)]), rfl⟩
          case rest =>
            obtain ⟨rfl, rfl⟩ := hcut
            go_upto_region 20 with fail
            go_loopg [17] ln (fun gk iv wq => ∃ q : Nat, q + gk = ln ∧ iv = .int .i64 (q : Int) ∧ Hid (Below W11.heap.size W11 wq))
            case atStart => exact ⟨0, by omega, rfl, HBc⟩
            case round =>
              obtain ⟨q, hq, rfl, HBq⟩ := hrel
              have hrc0 := (bcell HBq.out Hrc.out.1).trans Hrc.out.2
              rcases gk with _ | nk
              · have hqt : ¬ (q : Int) < (ln : Int) := by omega
                go_wp2_with fail
                go_roundg mk
                case measure => omega
                case rel => exact ⟨r + 1, by omega, by go_num, HBq⟩
              · have hqt : (q : Int) < (ln : Int) := by omega
                have hq0 : (0 : Int) ≤ (q : Int) := Int.natCast_nonneg q
                obtain ⟨qb, qo, rfl, hqb, hqc⟩ := Hqc.out (by omega)
                obtain ⟨o, ho⟩ : ∃ o, row[q]? = some o := ⟨row[q]'(by rw [Hln.out]; omega), List.getElem?_eq_getElem _⟩
                have q0 := (bcell HBq.out hqb).trans (hqc q o ho)
                have hom := List.mem_of_getElem? ho
                obtain ⟨ho0, ho1⟩ := Hrr.out o hom
                obtain ⟨on, rfl⟩ : ∃ on : Nat, o = (on : Int) := ⟨o.toNat, by omega⟩
                obtain ⟨y, hy⟩ : ∃ y, ps[on]? = some y := ⟨ps[on]'(by rw [Hpn.out]; omega), List.getElem?_eq_getElem _⟩
                obtain ⟨pb2, po2, e2, hpb2, hpc2⟩ := HPc.out on y hy
                injection e2 with e2
                injection e2 with e2 e3
                subst e2
                subst e3
                obtain ⟨_, _, e4, _, hpc1⟩ := HPc.out r x Hx.out
                injection e4 with e4
                injection e4 with e4 e5
                subst e4
                subst e5
                have p0 := (bcell HBq.out hpb2).trans hpc1
                have p1 := (bcell HBq.out hpb2).trans hpc2
                clear pc0 hqc ho hpc1 hpc2
                have HB5 : Hid (∀ m, Below W11.heap.size W11 (wr.drewN m)) := Lib.hid (fun m => below_drewN HBq.out m)
                go_upto_region 22 with fail
                by_cases h0 : x ≥ 0
                · have hne : y ≠ x := HFar.out h0 on hom y hy
                  have hd : decide (y = x) = false := decide_eq_false hne
                  have hb : (y == x) = false := by simpa using hne
                  have hd0 : decide (x ≥ 0) = true := decide_eq_true h0
                  clear hy hom
                  go_quiet (fail)
                  go_wp2_with fail
                  go_roundg nk
                  case measure => omega
                  case rel => exact ⟨q + 1, by omega, by go_num, Lib.hid (HB5.out _)⟩
                · have hd0 : decide (x ≥ 0) = false := decide_eq_false h0
                  clear hy hom
                  go_quiet (fail)
                  go_wp2_with fail
                  go_roundg nk
                  case measure => omega
                  case rel => exact ⟨q + 1, by omega, by go_num, Lib.hid (HB5.out _)⟩
end Go.Proofs.YtkkllflbepcimaaGreatDoor
