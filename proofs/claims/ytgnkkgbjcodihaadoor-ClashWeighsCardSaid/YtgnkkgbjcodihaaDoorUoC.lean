/-
  The walk of the law ClashWeighs.
  Conditions: the unit's numbers are Go's.
-/
import Derived.Test.YtgnkkgbjcodihaaDoorUnZ
import Derived.Test.YtgnkkgbjcodihaaDoorUoA
import Derived.Test.YtgnkkgbjcodihaaDoorUoB
import Derived.Deep.AppendLies
namespace Go.Proofs.YtgnkkgbjcodihaaDoor
open Go.RowKit

/-- The cells of some operands. -/
def opdsV (os : List Opd) : List Value := (os.map fun o => [Value.bool o.reg, .int .i64 o.n]).flatten
theorem opdsV_len (os : List Opd) : (opdsV os).length = os.length * 2 := by
  unfold opdsV
  induction os with
  | nil => rfl
  | cons o os ih => simp only [List.map_cons, List.flatten_cons, List.length_append, ih, List.length_cons, List.length_nil]; omega
theorem opdsV_app (l m : List Opd) : opdsV (l ++ m) = opdsV l ++ opdsV m := by unfold opdsV; rw [List.map_append, List.flatten_append]
theorem opdsV_cons (o : Opd) (l : List Opd) : opdsV (o :: l) = .bool o.reg :: .int .i64 o.n :: opdsV l := rfl
theorem opdsV_at : ∀ {os : List Opd} {k : Nat} {v : Opd}, os[k]? = some v → (opdsV os)[k * 2]? = some (.bool v.reg) ∧ (opdsV os)[k * 2 + 1]? = some (.int .i64 v.n)
  | [], k, v, h => by simp at h
  | o :: os, 0, v, h => by simp at h; subst h; exact ⟨rfl, rfl⟩
  | o :: os, k + 1, v, h => by
    have ih := opdsV_at (os := os) (k := k) (v := v) (by simpa using h)
    rw [opdsV_cons, show (k + 1) * 2 = k * 2 + 1 + 1 by omega]
    simpa using ih
theorem opdsV_one (os : List Opd) : ∀ u ∈ opdsV os, u.oneCell' = true := by
  intro u hu
  unfold opdsV at hu
  obtain ⟨l, hl, hu⟩ := List.mem_flatten.1 hu
  obtain ⟨o, _, rfl⟩ := List.mem_map.1 hl
  simp only [List.mem_cons, List.not_mem_nil, or_false] at hu
  rcases hu with rfl | rfl <;> rfl
/-- .. as they lie in memory. -/
theorem opds_src {w : World} {B : Nat} {A : Option Addr} {l c : Nat} {os : List Opd} (h : OpdsAt w B (.slice A l c) os) (hl : 0 < l) : ∃ b off, A = some ⟨b, off, none⟩ ∧ b < B ∧ ∀ j u, (opdsV os)[j]? = some u → w.cell? ((⟨b, off, none⟩ : Addr).add j) = some u := by
  have hlen := SlAt.len h
  obtain ⟨A', c', e, _, _, h3⟩ := h
  obtain ⟨b, off, e1, e2, e3⟩ := h3 (by omega)
  cases e
  refine ⟨b, off, e1, e2, fun j u hu => ?_⟩
  have hj := (List.getElem?_eq_some_iff.1 hu).1
  rw [opdsV_len] at hj
  obtain ⟨k, r, rfl, hr⟩ : ∃ k r, j = k * 2 + r ∧ r < 2 := ⟨j / 2, j % 2, by omega, by omega⟩
  obtain ⟨v, hv⟩ : ∃ v, os[k]? = some v := ⟨os[k]'(by omega), List.getElem?_eq_getElem _⟩
  obtain ⟨us, hus, hc⟩ := e3 k v hv
  unfold OpdP at hus
  subst hus
  obtain ⟨h0, h1⟩ := opdsV_at hv
  have ha : (⟨b, off, none⟩ : Addr).add (k * 2 + r) = ⟨b, off + k * 2 + r, none⟩ := by
    unfold Addr.add
    split
    · rename_i h; rw [show k * 2 = 0 by omega, show r = 0 by omega]; rfl
    · simp [Nat.add_assoc]
  rw [ha]
  rcases (by omega : r = 0 ∨ r = 1) with rfl | rfl
  · rw [Nat.add_zero] at hu
    rw [h0] at hu
    cases hu
    exact hc 0 _ rfl
  · rw [h1] at hu
    cases hu
    exact hc 1 _ rfl
theorem infoVal : (Tryd.prog.info? 40).map (fun i => (i.zero, i.size, i.bytes)) = some (some (.agg #[.bool false, .int .i64 0]), 2, 16) := by kernel_rfl
theorem twin_weights : weightsF [] twinFs 0 = [2, 2, 2] := by kernel_rfl
theorem occV_one {v : Opd} (h : v.reg = true) : (occV v).length = 1 := by unfold occV; rw [if_pos h]; rfl
theorem occV_none {v : Opd} (h : v.reg = false) : (occV v).length = 0 := by unfold occV; rw [if_neg (by simp [h])]; rfl
theorem occI_vals (x : InsU) : (occI x).length = (if 0 ≤ x.dst then 1 else 0) + (occVs ([x.a, x.b] ++ x.args)).length := by
  unfold occI
  rw [occVs_app, show ([x.a, x.b] : List Opd) = [x.a] ++ [x.b] from rfl, occVs_app, occVs_one, occVs_one]
  simp only [List.length_append]
  split <;> simp only [List.length_cons, List.length_nil] <;> omega
/-- The cells of a slice that the call owns. -/
theorem own_cell {w : World} {base g n cap : Nat} {e : TypeId} {size : Nat} {xs : List Value} (h : w.ownsRow base e size (.slice (some ⟨g, 0, none⟩) n cap) n xs) {j : Nat} {u : Value} (hu : xs[j]? = some u) : w.cell? ⟨g, j, none⟩ = some u := by
  have hj := (List.getElem?_eq_some_iff.1 hu).1
  rw [h.1] at hj
  rw [World.ownsRow.cellAt h j hj, hu]
set_option maxRecDepth 100000 in
set_option maxHeartbeats 4000000 in
theorem ClashWeighs_any (gv fv : Value) (gs : List Glob) (fs : List FunU) (k : Int) (w : World) (hk : I64 k) (hu : UnitAt w w.heap.size gv fv gs fs) :
    Calls Tryd.prog 3 #[.agg #[gv, fv], .int .i64 k] w fun e w' => e = .returned (.bool true) ∧ Below w.heap.size w w' := by
  have HU := Lib.hid hu
  obtain ⟨A, c, rfl, hl1, hl2⟩ := SlAt.form hu.funs
  obtain ⟨l, hl⟩ : ∃ l, fs.length = l := ⟨_, rfl⟩
  rw [hl] at HU hl1 ⊢
  have Hl := Lib.hid hl
  have Hk := Lib.hid hk
  have HB0 : Hid (Below w.heap.size w (w.alloc (.cells #[gv, .slice A l c] 25))) := Lib.hid ((Below.refl _ _).alloc (Nat.le_refl _) _)
  have HC0 : Hid (Blk (w.alloc (.cells #[gv, .slice A l c] 25)) w.heap.size 25 #[gv, .slice A l c]) := Lib.hid (Blk.new w _ _)
  clear hu hk hl
  go_enter Tryd.func3, Tryd.ntmps3
  go_upto_region 1 with fail
  generalize w.alloc (.cells #[gv, .slice A l c] 25) = W0 at *
  have HU0 := Lib.hid (HU.out.later HB0.out)
  go_wp2_with fail
  refine (twin_any W0 HU0.out.ways).mono ?_
  rintro e W1 ⟨tg, tf, rfl, htu, hb1⟩
  have HB1 := Lib.hid (HB0.out.trans (hb1.mono HB0.out.size))
  have HC1 := Lib.hid (HC0.out.below hb1 HC0.out.lt)
  have HT := Lib.hid htu
  clear hb1 htu HC0 HB0 HU0
  go_wp2_with fail
  refine (Weights_any tg tf [] twinFs 0 W1 (i64_small (by decide)) HT.out).mono ?_
  rintro e W2 ⟨v2, rfl, ho2, hb2⟩
  rw [twin_clash, twin_weights] at *
  have HB2 := Lib.hid (HB1.out.trans (hb2.mono HB1.out.size))
  have HC2 := Lib.hid (HC1.out.below hb2 HC1.out.lt)
  have HO2 : Hid (OwnInts (W2.alloc (.cells #[.int .i64 0, .int .i64 0] 28)) W1.heap.size v2 [2, 2, 2]) := Lib.hid (ho2.below ((Below.refl _ _).alloc (Nat.le_refl _) _) rfl)
  have HB3 : Hid (Below w.heap.size w (W2.alloc (.cells #[.int .i64 0, .int .i64 0] 28))) := Lib.hid (HB2.out.alloc HB2.out.size _)
  have HC3 := Lib.hid (HC2.out.alloc (.cells #[.int .i64 0, .int .i64 0] 28))
  have HF3 : Hid (Blk (W2.alloc (.cells #[.int .i64 0, .int .i64 0] 28)) W2.heap.size 28 #[.int .i64 0, .int .i64 0]) := Lib.hid (Blk.new _ _ _)
  clear hb2 ho2 HC1 HC2 HB1 HB2 HT
  go_upto_region 2 with fail
  generalize W2.alloc (.cells #[.int .i64 0, .int .i64 0] 28) = W3 at *
  generalize W2.heap.size = g6 at *
  have f0 := HF3.out.cell 0
  have HI3 : Hid (IntsAt (W3.alloc (.cells #[.int .i64 2, .int .i64 2, .int .i64 2] 3)) (W3.alloc (.cells #[.int .i64 2, .int .i64 2, .int .i64 2] 3)).heap.size v2 [2, 2, 2]) := Lib.hid (OwnInts.ints (HO2.out.below ((Below.refl _ _).alloc (Nat.le_refl _) _) rfl))
  have HJ3 : Hid (IntsAt (W3.alloc (.cells #[.int .i64 2, .int .i64 2, .int .i64 2] 3)) (W3.alloc (.cells #[.int .i64 2, .int .i64 2, .int .i64 2] 3)).heap.size (.slice (some ⟨W3.heap.size, 0, none⟩) 3 3) [2, 2, 2]) := Lib.hid (OwnInts.ints (own_of_blk (xs := [2, 2, 2]) (Blk.new W3 3 _) (Nat.zero_le _) (by decide)))
  go_wp2_with fail
  refine (Ints_any v2 _ _ _ _ HI3.out HJ3.out).mono ?_
  rintro e W4 ⟨rfl, hb4⟩
  rw [decide_eq_true rfl]
  have HB4 : Hid (Below w.heap.size w W4) := Lib.hid ((HB3.out.alloc HB3.out.size _).trans (hb4.mono (HB3.out.alloc HB3.out.size _).size))
  have HC4 := Lib.hid ((HC3.out.alloc _).below hb4 (HC3.out.alloc _).lt)
  clear hb4 HI3 HJ3 HO2 HF3 HC3 HB3 f0
  have c0 := HC4.out.cell 0
  have c1 := HC4.out.cell 1
  have HU4 := Lib.hid (HU.out.later HB4.out)
  go_wp2_with fail
  refine (good_any gv _ gs fs k W4 Hk.out HU4.out).mono ?_
  rintro e W5 ⟨rfl, hb5⟩
  have HB5 := Lib.hid (HB4.out.trans (hb5.mono HB4.out.size))
  have HC5 := Lib.hid (HC4.out.below hb5 HC4.out.lt)
  clear hb5 HU4 HC4 HB4 c0 c1
  cases hgd : goodF gs fs k with
  | false =>
    clear hgd
    go_wp2_with fail
    go_ret
    exact ⟨rfl, HB5.out⟩
  | true =>
    have hcf : (clashF gs fs k).1 = 0 := by
      unfold goodF at hgd
      rw [Bool.and_eq_true, decide_eq_true_eq] at hgd
      exact hgd.1
    clear hgd
    have c0 := HC5.out.cell 0
    have c1 := HC5.out.cell 1
    have HU5 := Lib.hid (HU.out.later HB5.out)
    go_wp2_with fail
    refine (Weights_any gv _ gs fs k W5 Hk.out HU5.out).mono ?_
    rintro e W6 ⟨v6, rfl, ho6, hb6⟩
    have hcz := clashF_zero hcf
    rw [hcz.1]
    obtain ⟨f, hf, hk0, hk1, hph, hho, hbo⟩ := hcz.2.2
    obtain ⟨n, rfl⟩ : ∃ n : Nat, k = (n : Int) := ⟨k.toNat, by omega⟩
    have hnl : n < l := by rw [Hl.out] at hk1; omega
    obtain ⟨fb, fo, f', bA, bc, rfl, hfb, hfn, f0, f1, f2, f3, hblw⟩ := FunsAt.one HU.out.funs hnl
    obtain rfl : f = f' := by
      rw [Int.toNat_natCast] at hf
      rw [hf] at hfn
      exact Option.some.inj hfn
    obtain ⟨bl, hbl2⟩ : ∃ bl, f.blocks.length = bl := ⟨_, rfl⟩
    obtain ⟨nr, hnr⟩ : ∃ nr : Nat, f.regs = (nr : Int) := ⟨f.regs.toNat, by have := hho.p0; have := hho.r0; omega⟩
    have hnr1 : nr ≤ 100 := by have := hho.r1; omega
    rw [hbl2] at f3 hblw
    rw [hnr] at f2
    have HBL := Lib.hid hblw
    have HBLn := Lib.hid hbl2
    have Hf2 := Lib.hid f2
    have Hf3 := Lib.hid f3
    have Hfb := Lib.hid hfb
    have hbl40 : bl ≤ 40 := by have := hho.b1; omega
    have hw6 : weightsF gs fs (n : Int) = tally nr (occBs f.blocks) := by
      unfold weightsF
      rw [if_neg (by rw [hcf]; simp), hf]
      show tally f.regs.toNat _ = _
      rw [hnr]
      simp
    rw [hw6] at ho6
    have Hfew : Hid ((occBs f.blocks).length ≤ 2740) := Lib.hid (occ_few hcz.2.1 hf)
    have Hargs : Hid (∀ b ∈ f.blocks, ∀ x ∈ b.list, x.args.length ≤ 6) := Lib.hid (args_few hcz.2.1 hf)
    have Hsum : Hid ((tally nr (occBs f.blocks)).sum = ((occBs f.blocks).length : Int)) := Lib.hid (by
      have := sum_tally (n := nr) (l := occBs f.blocks) (by rw [← hnr]; exact occ_in hcz.2.1 hf)
      exact this)
    have hn1 : (n : Int) < (l : Int) := by omega
    have HB6 := Lib.hid (HB5.out.trans (hb6.mono HB5.out.size))
    have HC6 := Lib.hid (HC5.out.below hb6 HC5.out.lt)
    have HB7 : Hid (Below w.heap.size w (W6.alloc (.cells #[.int .i64 0, .int .i64 0] 28))) := Lib.hid (HB6.out.alloc HB6.out.size _)
    have HC7 := Lib.hid (HC6.out.alloc (.cells #[.int .i64 0, .int .i64 0] 28))
    have HF7 : Hid (Blk (W6.alloc (.cells #[.int .i64 0, .int .i64 0] 28)) W6.heap.size 28 #[.int .i64 0, .int .i64 0]) := Lib.hid (Blk.new _ _ _)
    have hi6 := OwnInts.ints (ho6.below ((Below.refl _ _).alloc (Nat.le_refl _) (.cells #[.int .i64 0, .int .i64 0] 28)) rfl)
    clear hb6 ho6 HC6 HB6 HC5 HB5 HU5 c0 c1 hcz hf hk0 hk1 hph hho hbo hfn hblw hbl2 f0 f1 f2 f3 hw6 hcf
    go_upto_region 9 with fail
    generalize W6.alloc (.cells #[.int .i64 0, .int .i64 0] 28) = W7 at *
    generalize W6.heap.size = g8 at *
    obtain ⟨T, hT⟩ : ∃ T, tally nr (occBs f.blocks) = T := ⟨_, rfl⟩
    have hTl : T.length = nr := by rw [← hT, tally_len]
    have HTp : Hid (∀ (j : Nat) (x : Int), T[j]? = some x → 0 ≤ x ∧ x ≤ 2740) := Lib.hid (fun j x hx => by
      have hj := (List.getElem?_eq_some_iff.1 hx).1
      rw [← hT, tally_at (by omega)] at hx
      cases hx
      have h1 := List.count_le_length (a := (j : Int)) (l := occBs f.blocks)
      have h2 := Hfew.out
      omega)
    rw [hT] at hi6 Hsum
    obtain ⟨A6, c6, rfl, h61, h62, h63⟩ := hi6
    rw [hTl] at h61 h63 ⊢
    have HI6 := Lib.hid h63
    have HTl := Lib.hid hTl
    have hTs : ∀ j, j ≤ nr → 0 ≤ (T.take j).sum ∧ (T.take j).sum ≤ (j : Int) * 2740 := by
      intro j
      induction j with
      | zero => intro _; simp
      | succ j ih =>
        intro hj
        have := ih (by omega)
        obtain ⟨x, hx⟩ : ∃ x, T[j]? = some x := ⟨T[j]'(by omega), List.getElem?_eq_getElem _⟩
        have hx2 := HTp.out j x hx
        rw [List.take_succ_eq_append_getElem (by omega), (List.getElem?_eq_some_iff.1 hx).2, List.sum_append]
        simp only [List.sum_cons, List.sum_nil]
        push_cast
        omega
    have HTs := Lib.hid hTs
    clear hT hTl h63 hTs
    have hg0 := HC7.out.lt
    go_loopg [9, 10] nr (fun gk s i wr => ∃ j : Nat, j + gk = nr ∧ s = .int .i64 (T.take j).sum ∧ i = .int .i64 j ∧ wr = W7)
    case atStart => exact ⟨0, by omega, by simp, rfl, rfl⟩
    case round =>
      obtain ⟨j, hj, rfl, rfl, rfl⟩ := hrel
      rcases gk with _ | m
      · have hlt : ¬ (j : Int) < (nr : Int) := by omega
        have hjn : j = nr := by omega
        rw [List.take_of_length_le (by rw [HTl.out]; omega), Hsum.out]
        clear hjn hj
        go_wp2_with fail
        clear HI6 HTp HTs HTl Hsum
        go_loopg [11, 12] bl (fun gk s i wr => ∃ j : Nat, j + gk = bl ∧ s = .int .i64 ((occBs (f.blocks.take j)).length : Nat) ∧ i = .int .i64 j ∧ Hid (Below w.heap.size w wr) ∧ Hid (Blk wr w.heap.size 25 #[gv, .slice (some ⟨fb, fo, none⟩) l c]) ∧ Hid (Blk wr g8 28 #[.int .i64 0, .int .i64 0]))
        case atStart => exact ⟨0, by omega, by simp [occBs], rfl, HB7, HC7, HF7⟩
        case round =>
          obtain ⟨j2, hj2, rfl, rfl, HB, HC, HF⟩ := hrel
          clear HB7 HC7 HF7
          have c1 := HC.out.cell 1
          have f2 := (bcell HB.out Hfb.out).trans Hf2.out
          have f3 := (bcell HB.out Hfb.out).trans Hf3.out
          have hg0 := HC.out.lt
          have hfb1 := Nat.lt_of_lt_of_le Hfb.out HB.out.size
          rcases gk with _ | m
          · have hlt2 : ¬ (j2 : Int) < (bl : Int) := by omega
            have HE : Hid ((occBs (f.blocks.take j2)).length = (occBs f.blocks).length) := Lib.hid (by rw [List.take_of_length_le (by rw [HBLn.out]; omega)])
            rw [HE.out]
            have q0 := HF.out.cell 0
            clear hj2
            go_wp2_with fail
            go_ret
            exact ⟨ret_bool (by simp), HB.out⟩
          · have hlt2 : (j2 : Int) < (bl : Int) := by omega
            have hj20 : (0 : Int) ≤ (j2 : Int) := Int.natCast_nonneg j2
            obtain ⟨bb, bo, b, pA, pc, lA, lc, tA, tc, rfl, hbb, hbj, p0, p1, p2, p3, p4, p5, hph, hli, hto⟩ := BlksAt.one HBL.out (show j2 < bl by omega)
            have p0 := (bcell HB.out hbb).trans p0
            have p1 := (bcell HB.out hbb).trans p1
            have p2 := (bcell HB.out hbb).trans p2
            have p3 := (bcell HB.out hbb).trans p3
            have p4 := (bcell HB.out hbb).trans p4
            have p5 := (bcell HB.out hbb).trans p5
            have hbb1 : bb < wr.heap.size := Nat.lt_of_lt_of_le hbb HB.out.size
            have Hbj := Lib.hid hbj
            obtain ⟨ll, hll⟩ : ∃ ll, b.list.length = ll := ⟨_, rfl⟩
            rw [hll] at p1 hli
            have Hll := Lib.hid hll
            have HLI := Lib.hid hli
            have hll63 : ll ≤ 9223372036854775807 := by
              obtain ⟨_, _, e, h1, h2⟩ := SlAt.form hli
              cases e
              omega
            have HB1 : Hid (Below w.heap.size w (wr.alloc (.cells #[.slice pA b.phis.length pc, .slice lA ll lc, .int .i64 b.kind, .bool b.on.reg, .int .i64 b.on.n, .slice tA b.to.length tc] 44))) := Lib.hid (HB.out.alloc HB.out.size _)
            have HC1 := Lib.hid (HC.out.alloc (.cells #[.slice pA b.phis.length pc, .slice lA ll lc, .int .i64 b.kind, .bool b.on.reg, .int .i64 b.on.n, .slice tA b.to.length tc] 44))
            have HF1 := Lib.hid (HF.out.alloc (.cells #[.slice pA b.phis.length pc, .slice lA ll lc, .int .i64 b.kind, .bool b.on.reg, .int .i64 b.on.n, .slice tA b.to.length tc] 44))
            have HK1 : Hid (Blk (wr.alloc (.cells #[.slice pA b.phis.length pc, .slice lA ll lc, .int .i64 b.kind, .bool b.on.reg, .int .i64 b.on.n, .slice tA b.to.length tc] 44)) wr.heap.size 44 #[.slice pA b.phis.length pc, .slice lA ll lc, .int .i64 b.kind, .bool b.on.reg, .int .i64 b.on.n, .slice tA b.to.length tc]) := Lib.hid (Blk.new _ _ _)
            have Hz : Hid ((occBs (f.blocks.take j2)).length + (occIs b.list).length + (occV b.on).length ≤ 2740) := Lib.hid (by
              have h1 := occBs_part hbj
              have h2 := Hfew.out
              unfold occB at h1
              rw [List.length_append] at h1
              omega)
            have Hs : Hid ((occBs (f.blocks.take (j2 + 1))).length = (occBs (f.blocks.take j2)).length + (occIs b.list).length + (occV b.on).length) := Lib.hid (by
              rw [occBs_snoc hbj, List.length_append]
              unfold occB
              rw [List.length_append]
              omega)
            obtain ⟨N0, hN0⟩ : ∃ N0, (occBs (f.blocks.take j2)).length = N0 := ⟨_, rfl⟩
            rw [hN0] at Hz Hs ⊢
            clear hbj hll hph hli hto hN0
            go_upto_region 20 with fail
            clear p0 p1 p2 p3 p4 p5 c1 f2 f3 HB HC HF
            generalize wr.alloc (.cells #[.slice pA b.phis.length pc, .slice lA ll lc, .int .i64 b.kind, .bool b.on.reg, .int .i64 b.on.n, .slice tA b.to.length tc] 44) = W8 at *
            generalize wr.heap.size = gbk at *
            go_loopg [11, 14] ll (fun gk s i wr => ∃ q : Nat, q + gk = ll ∧ s = .int .i64 ((N0 + (occIs (b.list.take q)).length : Nat) : Int) ∧ i = .int .i64 q ∧ Hid (Below w.heap.size w wr) ∧ Hid (Blk wr w.heap.size 25 #[gv, .slice (some ⟨fb, fo, none⟩) l c]) ∧ Hid (Blk wr g8 28 #[.int .i64 0, .int .i64 0]) ∧ Hid (Blk wr gbk 44 #[.slice pA b.phis.length pc, .slice lA ll lc, .int .i64 b.kind, .bool b.on.reg, .int .i64 b.on.n, .slice tA b.to.length tc]))
            case atStart => exact ⟨0, by omega, by simp [occIs], rfl, HB1, HC1, HF1, HK1⟩
            case round =>
              obtain ⟨q, hq, rfl, rfl, HBq, HCq, HFq, HKq⟩ := hrel
              clear HB1 HC1 HF1 HK1
              have k1 := HKq.out.cell 1
              rcases gk with _ | mi
              · have hlt3 : ¬ (q : Int) < (ll : Int) := by omega
                have hqe : (occIs (b.list.take q)).length = (occIs b.list).length := by rw [List.take_of_length_le (by rw [Hll.out]; omega)]
                rw [hqe]
                have k3 := HKq.out.cell 3
                clear hq hqe
                cases hon : b.on.reg with
                | true =>
                  have HE : Hid (((N0 + (occIs b.list).length : Nat) : Int) + 1 = (((occBs (f.blocks.take (j2 + 1))).length : Nat) : Int)) := Lib.hid (by rw [Hs.out, occV_one hon]; push_cast; omega)
                  have hzz := Hz.out
                  rw [hon] at k3
                  have hw : IntKind.i64.wrap (((N0 + (occIs b.list).length : Nat) : Int) + 1) = ((N0 + (occIs b.list).length : Nat) : Int) + 1 := wrap_in _ ⟨by omega, by omega⟩
                  generalize ((N0 + (occIs b.list).length : Nat) : Int) = s1 at *
                  clear hzz hon
                  go_wp2_with fail
                  go_roundg m
                  case measure => omega
                  case rel => exact ⟨j2 + 1, by omega, by rw [HE.out], by go_num, HBq, HCq, HFq⟩
                | false =>
                  have HE : Hid (((N0 + (occIs b.list).length : Nat) : Int) = (((occBs (f.blocks.take (j2 + 1))).length : Nat) : Int)) := Lib.hid (by rw [Hs.out, occV_none hon]; push_cast; omega)
                  rw [hon] at k3
                  generalize ((N0 + (occIs b.list).length : Nat) : Int) = s1 at *
                  clear hon
                  go_wp2_with fail
                  go_roundg m
                  case measure => omega
                  case rel => exact ⟨j2 + 1, by omega, by rw [HE.out], by go_num, HBq, HCq, HFq⟩
              · have hlt3 : (q : Int) < (ll : Int) := by omega
                have hq0 : (0 : Int) ≤ (q : Int) := Int.natCast_nonneg q
                obtain ⟨xb, xo, x, aA, ac, rfl, hxb, hxi, q0, q1, q2, q3, q4, q5, q6, q7, hop⟩ := InssAt.one HLI.out (show q < ll by omega)
                have q0 := (bcell HBq.out hxb).trans q0
                have q1 := (bcell HBq.out hxb).trans q1
                have q2 := (bcell HBq.out hxb).trans q2
                have q3 := (bcell HBq.out hxb).trans q3
                have q4 := (bcell HBq.out hxb).trans q4
                have q5 := (bcell HBq.out hxb).trans q5
                have q6 := (bcell HBq.out hxb).trans q6
                have q7 := (bcell HBq.out hxb).trans q7
                have hxb1 : xb < wr.heap.size := Nat.lt_of_lt_of_le hxb HBq.out.size
                obtain ⟨al, hal⟩ : ∃ al, x.args.length = al := ⟨_, rfl⟩
                rw [hal] at q7 hop
                have hal6 : al ≤ 6 := by rw [← hal]; exact Hargs.out b (List.mem_of_getElem? Hbj.out) x (List.mem_of_getElem? hxi)
                have Hop := Lib.hid hop
                have Hal := Lib.hid hal
                have Hzx : Hid (N0 + (occIs (b.list.take q)).length + (occI x).length ≤ 2740) := Lib.hid (by
                  have h1 := occIs_part hxi
                  have h2 := Hz.out
                  omega)
                have Hsx : Hid ((occIs (b.list.take (q + 1))).length = (occIs (b.list.take q)).length + (occI x).length) := Lib.hid (by
                  rw [occIs_snoc hxi, List.length_append])
                have Hxv := Lib.hid (occI_vals x)
                have HB2 : Hid (Below w.heap.size w (wr.alloc (.cells #[.int .i64 x.op, .int .i64 x.dst, .bool x.a.reg, .int .i64 x.a.n, .bool x.b.reg, .int .i64 x.b.n, .int .i64 x.fn, .slice aA al ac] 47))) := Lib.hid (HBq.out.alloc HBq.out.size _)
                have HC2 := Lib.hid (HCq.out.alloc (.cells #[.int .i64 x.op, .int .i64 x.dst, .bool x.a.reg, .int .i64 x.a.n, .bool x.b.reg, .int .i64 x.b.n, .int .i64 x.fn, .slice aA al ac] 47))
                have HF2 := Lib.hid (HFq.out.alloc (.cells #[.int .i64 x.op, .int .i64 x.dst, .bool x.a.reg, .int .i64 x.a.n, .bool x.b.reg, .int .i64 x.b.n, .int .i64 x.fn, .slice aA al ac] 47))
                have HK2 := Lib.hid (HKq.out.alloc (.cells #[.int .i64 x.op, .int .i64 x.dst, .bool x.a.reg, .int .i64 x.a.n, .bool x.b.reg, .int .i64 x.b.n, .int .i64 x.fn, .slice aA al ac] 47))
                have HX2 : Hid (Blk (wr.alloc (.cells #[.int .i64 x.op, .int .i64 x.dst, .bool x.a.reg, .int .i64 x.a.n, .bool x.b.reg, .int .i64 x.b.n, .int .i64 x.fn, .slice aA al ac] 47)) wr.heap.size 47 #[.int .i64 x.op, .int .i64 x.dst, .bool x.a.reg, .int .i64 x.a.n, .bool x.b.reg, .int .i64 x.b.n, .int .i64 x.fn, .slice aA al ac]) := Lib.hid (Blk.new _ _ _)
                clear hxi hop hal
                go_upto_region 23 with fail
                clear q0 q1 q2 q3 q4 q5 q6 q7 k1 HBq HCq HFq HKq
                generalize wr.alloc (.cells #[.int .i64 x.op, .int .i64 x.dst, .bool x.a.reg, .int .i64 x.a.n, .bool x.b.reg, .int .i64 x.b.n, .int .i64 x.fn, .slice aA al ac] 47) = W9 at *
                generalize wr.heap.size = gx at *
                obtain ⟨N1, hN1⟩ : ∃ N1, N0 + (occIs (b.list.take q)).length = N1 := ⟨_, rfl⟩
                have HN1 := Lib.hid hN1
                rw [hN1] at Hzx ⊢
                clear hN1
                have x1 := HX2.out.cell 1
                go_upto_if 93 with fail
                go_cut [11] (fun s wx => s = .int .i64 ((N1 + (if 0 ≤ x.dst then 1 else 0) : Nat) : Int) ∧ wx = W9)
                case first =>
                  have hzz := Hzx.out
                  by_cases hd : 0 ≤ x.dst
                  · have hzx := Hxv.out
                    rw [if_pos hd] at hzx
                    have HE : Hid (((N1 + (if 0 ≤ x.dst then 1 else 0) : Nat) : Int) = (N1 : Int) + 1) := Lib.hid (by rw [if_pos hd]; push_cast; rfl)
                    have hw : IntKind.i64.wrap ((N1 : Int) + 1) = (N1 : Int) + 1 := wrap_in _ ⟨by omega, by omega⟩
                    have hw' : wrap64 ((N1 : Int) + 1) = (N1 : Int) + 1 := IntWalk.wrap64_in _ ⟨by omega, by omega⟩
                    clear hzz hzx
                    go_wp2_with fail
                    go_meet
                    exact ⟨by rw [HE.out], rfl⟩
                  · have HE : Hid (((N1 + (if 0 ≤ x.dst then 1 else 0) : Nat) : Int) = (N1 : Int)) := Lib.hid (by rw [if_neg hd]; rfl)
                    clear hzz
                    go_wp2_with fail
                    go_meet
                    exact ⟨by rw [HE.out], rfl⟩
                case rest =>
                  obtain ⟨rfl, rfl⟩ := hcut
                  have Hxv2 : Hid (N1 + (if 0 ≤ x.dst then 1 else 0) + (occVs ([x.a, x.b] ++ x.args)).length = N1 + (occI x).length) := Lib.hid (by rw [Hxv.out]; omega)
                  obtain ⟨N2, hN2⟩ : ∃ N2, N1 + (if 0 ≤ x.dst then 1 else 0) = N2 := ⟨_, rfl⟩
                  rw [hN2] at Hxv2 ⊢
                  clear hN2 x1
                  have x2 := HX2.out.cell 2
                  have x3 := HX2.out.cell 3
                  have x4 := HX2.out.cell 4
                  have x5 := HX2.out.cell 5
                  have x7 := HX2.out.cell 7
                  have hgx := HX2.out.lt
                  have HB3 : Hid (Below w.heap.size w (wc.alloc (.cells #[.bool x.a.reg, .int .i64 x.a.n, .bool x.b.reg, .int .i64 x.b.n] 40))) := Lib.hid (HB2.out.alloc HB2.out.size _)
                  have HC3 := Lib.hid (HC2.out.alloc (.cells #[.bool x.a.reg, .int .i64 x.a.n, .bool x.b.reg, .int .i64 x.b.n] 40))
                  have HF3 := Lib.hid (HF2.out.alloc (.cells #[.bool x.a.reg, .int .i64 x.a.n, .bool x.b.reg, .int .i64 x.b.n] 40))
                  have HK3 := Lib.hid (HK2.out.alloc (.cells #[.bool x.a.reg, .int .i64 x.a.n, .bool x.b.reg, .int .i64 x.b.n] 40))
                  have HO3 : Hid ((wc.alloc (.cells #[.bool x.a.reg, .int .i64 x.a.n, .bool x.b.reg, .int .i64 x.b.n] 40)).ownsRow w.heap.size 40 2 (.slice (some ⟨wc.heap.size, 0, none⟩) 2 2) 2 (opdsV [x.a, x.b])) := Lib.hid (World.ownsRow_lit wc #[.bool x.a.reg, .int .i64 x.a.n, .bool x.b.reg, .int .i64 x.b.n] 2 HB2.out.size (by unfold maxLen; omega) rfl)
                  have HS3 : Hid (0 < al → ∃ ad, aA = some ad ∧ ∀ j u, (opdsV x.args)[j]? = some u → (wc.alloc (.cells #[.bool x.a.reg, .int .i64 x.a.n, .bool x.b.reg, .int .i64 x.b.n] 40)).cell? (ad.add j) = some u) := Lib.hid (fun hp => by
                    obtain ⟨b, off, rfl, hb, hc⟩ := opds_src (Hop.out.move (Nat.le_refl _) (kept_of HB3.out (Nat.le_refl _))) hp
                    exact ⟨_, rfl, hc⟩)
                  have HL3 : Hid ((opdsV x.args).length = al * 2) := Lib.hid (by rw [opdsV_len, Hal.out])
                  have hz3 := HB3.out.size
                  go_wp2_with (at_builtin; refine app_src rfl _ _ 45 40 rfl (.agg #[.bool false, .int .i64 0]) 2 16 Tryd.underlying45 infoVal rfl (by decide) (by decide) w.heap.size _ 2 (opdsV [x.a, x.b]) (by rfl) HO3.out aA al ac (opdsV x.args) (by rfl) HL3.out HS3.out (opdsV_one _) (by omega) hz3 _ rfl ?_; intro v4 w4 HA4; obtain ⟨g4, cap4, hv4, hg4, hgl4⟩ := World.ownsRow.form HA4.out.own (by omega); subst hv4)
                  have HB5 := Lib.hid (HB3.out.trans HA4.out.below)
                  have HC5 := Lib.hid (HA4.out.blk HO3.out HC3.out (by decide))
                  have HF5 := Lib.hid (HA4.out.blk HO3.out HF3.out (by decide))
                  have HK5 := Lib.hid (HA4.out.blk HO3.out HK3.out (by decide))
                  have hown := HA4.out.own
                  rw [← opdsV_app] at hown
                  obtain ⟨vs, hvs⟩ : ∃ vs : List Opd, [x.a, x.b] ++ x.args = vs := ⟨_, rfl⟩
                  obtain ⟨vl, hvl⟩ : ∃ vl, 2 + al = vl := ⟨_, rfl⟩
                  have hvsl : vs.length = vl := by rw [← hvs, ← hvl, ← Hal.out]; simp; omega
                  rw [hvs, hvl] at hown
                  rw [hvs] at Hxv2
                  rw [hvl]
                  have Hown := Lib.hid hown
                  have Hvsl := Lib.hid hvsl
                  have hvl8 : vl ≤ 8 := by omega
                  clear hown hvs hvsl HA4 HO3 HS3 HL3 HB3 HC3 HF3 HK3 HB2 HC2 HF2 HK2 x2 x3 x4 x5 x7 hz3 hgx hvl
                  go_loopg [11, 17] vl (fun gk s i wr => ∃ p : Nat, p + gk = vl ∧ s = .int .i64 ((N2 + (occVs (vs.take p)).length : Nat) : Int) ∧ i = .int .i64 p ∧ wr = w4)
                  case atStart => exact ⟨0, by omega, by simp [occVs], rfl, rfl⟩
                  case round =>
                    obtain ⟨p, hp, rfl, rfl, rfl⟩ := hrel
                    rcases gk with _ | mp
                    · have hlt4 : ¬ (p : Int) < (vl : Int) := by omega
                      have HE : Hid (N2 + (occVs (vs.take p)).length = N0 + (occIs (b.list.take (q + 1))).length) := Lib.hid (by
                        rw [List.take_of_length_le (by rw [Hvsl.out]; omega), Hsx.out, Hxv2.out, ← HN1.out]
                        omega)
                      rw [HE.out]
                      clear hp
                      go_wp2_with fail
                      go_roundg mi
                      case measure => omega
                      case rel => exact ⟨q + 1, by omega, rfl, by go_num, HB5, HC5, HF5, HK5⟩
                    · have hlt4 : (p : Int) < (vl : Int) := by omega
                      have hp0 : (0 : Int) ≤ (p : Int) := Int.natCast_nonneg p
                      obtain ⟨v, hv⟩ : ∃ v, vs[p]? = some v := ⟨vs[p]'(by rw [Hvsl.out]; omega), List.getElem?_eq_getElem _⟩
                      have v0 := own_cell Hown.out (opdsV_at hv).1
                      have hz : N2 + (occVs (vs.take p)).length + (occV v).length ≤ 2740 := by
                        have e : occVs vs = occVs (vs.take (p + 1)) ++ occVs (vs.drop (p + 1)) := by rw [← occVs_app, List.take_append_drop]
                        have h1 := Hxv2.out
                        have h2 := Hzx.out
                        rw [e, List.length_append, occVs_snoc hv, List.length_append] at h1
                        omega
                      have hs : (occVs (vs.take (p + 1))).length = (occVs (vs.take p)).length + (occV v).length := by rw [occVs_snoc hv, List.length_append]
                      cases hr : v.reg with
                      | true =>
                        rw [occV_one hr] at hz hs
                        rw [hr] at v0
                        have HE : Hid (((N2 + (occVs (vs.take p)).length : Nat) : Int) + 1 = ((N2 + (occVs (vs.take (p + 1))).length : Nat) : Int)) := Lib.hid (by rw [hs]; push_cast; omega)
                        have hw : IntKind.i64.wrap (((N2 + (occVs (vs.take p)).length : Nat) : Int) + 1) = ((N2 + (occVs (vs.take p)).length : Nat) : Int) + 1 := wrap_in _ ⟨by omega, by omega⟩
                        generalize ((N2 + (occVs (vs.take p)).length : Nat) : Int) = s1 at *
                        clear hz hs hr hv
                        go_wp2_with fail
                        go_roundg mp
                        case measure => omega
                        case rel => exact ⟨p + 1, by omega, by rw [HE.out], by go_num, rfl⟩
                      | false =>
                        rw [occV_none hr] at hz hs
                        rw [hr] at v0
                        have HE : Hid (((N2 + (occVs (vs.take p)).length : Nat) : Int) = ((N2 + (occVs (vs.take (p + 1))).length : Nat) : Int)) := Lib.hid (by rw [hs]; rfl)
                        generalize ((N2 + (occVs (vs.take p)).length : Nat) : Int) = s1 at *
                        clear hz hs hr hv
                        go_wp2_with fail
                        go_roundg mp
                        case measure => omega
                        case rel => exact ⟨p + 1, by omega, by rw [HE.out], by go_num, rfl⟩
      · have hlt : (j : Int) < (nr : Int) := by omega
        have hj0 : (0 : Int) ≤ (j : Int) := Int.natCast_nonneg j
        obtain ⟨gb, gof, rfl, hgb, hgc⟩ := HI6.out (by omega)
        obtain ⟨x, hx⟩ : ∃ x, T[j]? = some x := ⟨T[j]'(by rw [HTl.out]; omega), List.getElem?_eq_getElem _⟩
        have hc := hgc j x hx
        have hx2 := HTp.out j x hx
        have hnx : ¬ x < 0 := by omega
        have HE : Hid ((T.take j).sum + x = (T.take (j + 1)).sum) := Lib.hid (by
          rw [List.take_succ_eq_append_getElem (by rw [HTl.out]; omega), (List.getElem?_eq_some_iff.1 hx).2, List.sum_append]
          simp)
        have hs1 := HTs.out j (by omega)
        have hw : IntKind.i64.wrap ((T.take j).sum + x) = (T.take j).sum + x := wrap_in _ ⟨by omega, by omega⟩
        generalize (T.take j).sum = s1 at *
        clear hx hx2 hs1 hgc
        go_wp2_with fail
        go_roundg m
        case measure => omega
        case rel => exact ⟨j + 1, by omega, by rw [HE.out], by go_num, rfl⟩
end Go.Proofs.YtgnkkgbjcodihaaDoor
