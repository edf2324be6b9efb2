/-
  The law ClashNames.
  Conditions: the unit's numbers are Go's.
-/
import Derived.Test.YtgnkkgbjcodihaaDoorSwD
import Derived.Deep.QuietTactic
import Derived.BigQuiet
import Derived.Deep.Draws
import Derived.BigCall
namespace Go.Proofs.YtgnkkgbjcodihaaDoor
open Go.RowKit

theorem cell_heap {w w' : World} (h : w'.heap = w.heap) (a : Addr) : w'.cell? a = w.cell? a := by unfold World.cell?; rw [h]
theorem ints_heap {w w' : World} (h : w'.heap = w.heap) {B : Nat} {v : Value} {xs : List Int} (hi : IntsAt w B v xs) : IntsAt w' B v xs := hi.move (Nat.le_refl _) (fun _ _ _ => cell_heap h _)
theorem rows_at {w : World} {base : Nat} {A : Option Addr} {n c : Nat} {F : Nat → Int → Bool} (h : RowsOwn w base (.slice A n c) ((List.range n).map fun (r : Nat) => listS n (F r))) (r : Nat) (hr : r < n) :
    ∃ g0 rA rc, A = some ⟨g0, 0, none⟩ ∧ w.cell? ⟨g0, r, none⟩ = some (.slice rA (listS n (F r)).length rc) ∧ IntsAt w w.heap.size (.slice rA (listS n (F r)).length rc) (listS n (F r)) := by
  obtain ⟨g0, rA, rc, xs, h1, h2, h3, h4⟩ := h.at_ (r := r) (by simpa using hr)
  rw [List.getElem?_map, List.getElem?_range hr] at h2
  obtain rfl : listS n (F r) = xs := Option.some.inj h2
  exact ⟨g0, rA, rc, h1, h3, h4⟩
set_option maxRecDepth 100000 in
set_option maxHeartbeats 8000000 in
theorem ClashNames_any (gv fv : Value) (gs : List Glob) (fs : List FunU) (k a b : Int) (w : World) (hk : I64 k) (ha : I64 a) (hb : I64 b) (hu : UnitAt w w.heap.size gv fv gs fs) :
    Calls Tryd.prog 8 #[.agg #[gv, fv], .int .i64 k, .int .i64 a, .int .i64 b] w fun e w' => e = .returned (.bool true) ∧ Below w.heap.size w w' := by
  obtain ⟨gA, gc, hgv⟩ : ∃ gA gc, gv = .slice gA gs.length gc := by
    obtain ⟨gA, gc, e, _⟩ := hu.globs
    exact ⟨gA, gc, e⟩
  subst hgv
  obtain ⟨gl, hgl⟩ : ∃ gl, gs.length = gl := ⟨_, rfl⟩
  rw [hgl] at hu ⊢
  clear hgl
  have HU := Lib.hid hu
  obtain ⟨A, c, rfl, hl1, hl2⟩ := SlAt.form hu.funs
  obtain ⟨l, hl⟩ : ∃ l, fs.length = l := ⟨_, rfl⟩
  rw [hl] at HU hl1 ⊢
  have Hl := Lib.hid hl
  have Hk := Lib.hid hk
  have Hab := Lib.hid (And.intro ha hb)
  have HB0 : Hid (Below w.heap.size w (w.alloc (.cells #[.slice gA gl gc, .slice A l c] 25))) := Lib.hid ((Below.refl _ _).alloc (Nat.le_refl _) _)
  have HC0 : Hid (Blk (w.alloc (.cells #[.slice gA gl gc, .slice A l c] 25)) w.heap.size 25 #[.slice gA gl gc, .slice A l c]) := Lib.hid (Blk.new w _ _)
  clear hu hk hl ha hb
  go_enter Tryd.func8, Tryd.ntmps8
  go_upto_region 1 with fail
  generalize w.alloc (.cells #[.slice gA gl gc, .slice A l c] 25) = W0 at *
  have HU0 := Lib.hid (HU.out.later HB0.out)
  have c0 := HC0.out.cell 0
  have c1 := HC0.out.cell 1
  go_wp2_with fail
  refine (good_any _ _ gs fs k W0 Hk.out HU0.out).mono ?_
  rintro e W5 ⟨rfl, hb5⟩
  have HB5 := Lib.hid (HB0.out.trans (hb5.mono HB0.out.size))
  have HC5 := Lib.hid (HC0.out.below hb5 HC0.out.lt)
  have HU5 := Lib.hid (HU.out.later HB5.out)
  clear hb5 HU0 HC0 HB0 c0 c1
  cases hgd : goodF gs fs k with
  | false =>
    clear hgd
    have HSu := Lib.hid (ClashSure_any W5 HU5.out.ways)
    go_wp2_with fail
    refine HSu.out.mono ?_
    rintro e W6 ⟨rfl, hb6⟩
    have HB6 := Lib.hid (HB5.out.trans (hb6.mono HB5.out.size))
    clear hb6
    go_wp2_with fail
    go_ret
    exact ⟨rfl, HB6.out⟩
  | true =>
    have hcf : (clashF gs fs k).1 = 0 := by
      unfold goodF at hgd
      rw [Bool.and_eq_true, decide_eq_true_eq] at hgd
      exact hgd.1
    clear hgd
    have hcz := clashF_zero hcf
    obtain ⟨f, hf, hk0, hk1, hph, hho, hbo⟩ := hcz.2.2
    obtain ⟨n, rfl⟩ : ∃ n : Nat, k = (n : Int) := ⟨k.toNat, by omega⟩
    rw [Int.toNat_natCast] at hf
    have hnl : n < l := by rw [Hl.out] at hk1; omega
    obtain ⟨fb, fo, f', bA, bc, rfl, hfb, hfn, f0, f1, f2, f3, _⟩ := FunsAt.one HU.out.funs hnl
    obtain rfl : f = f' := by
      rw [hf] at hfn
      exact Option.some.inj hfn
    obtain ⟨nr, hnr⟩ : ∃ nr : Nat, f.regs = (nr : Int) := ⟨f.regs.toNat, by have := hho.p0; have := hho.r0; omega⟩
    obtain ⟨pn, hpn⟩ : ∃ pn : Nat, f.params = (pn : Int) := ⟨f.params.toNat, by have := hho.p0; omega⟩
    have hnr1 : nr ≤ 100 := by have := hho.r1; omega
    have hpn1 : pn ≤ nr := by have := hho.r0; omega
    rw [hnr] at f2
    rw [hpn] at f1
    have hn1 : (n : Int) < (l : Int) := by omega
    have Hf := Lib.hid hf
    have Hcz := Lib.hid hcz.1
    have HFac := Lib.hid (And.intro hph (And.intro hho (args_few hcz.2.1 hf)))
    have Hfl : Hid (fs.length ≤ 10) := Lib.hid hcz.2.1.funs
    have Hnr := Lib.hid hnr
    have f0 := (bcell HB5.out hfb).trans f0
    have f1 := (bcell HB5.out hfb).trans f1
    have f2 := (bcell HB5.out hfb).trans f2
    have f3 := (bcell HB5.out hfb).trans f3
    have c1 := HC5.out.cell 1
    have HB6 : Hid (Below w.heap.size w (W5.alloc (.cells #[.string f.name, .int .i64 (pn : Int), .int .i64 (nr : Int), .slice bA f.blocks.length bc] 36))) := Lib.hid (HB5.out.alloc HB5.out.size _)
    have HC6 := Lib.hid (HC5.out.alloc (.cells #[.string f.name, .int .i64 (pn : Int), .int .i64 (nr : Int), .slice bA f.blocks.length bc] 36))
    have HF6 : Hid (Blk (W5.alloc (.cells #[.string f.name, .int .i64 (pn : Int), .int .i64 (nr : Int), .slice bA f.blocks.length bc] 36)) W5.heap.size 36 #[.string f.name, .int .i64 (pn : Int), .int .i64 (nr : Int), .slice bA f.blocks.length bc]) := Lib.hid (Blk.new _ _ _)
    have HgF : Hid (w.heap.size ≤ W5.heap.size) := Lib.hid HB5.out.size
    clear hcz hf hk0 hk1 hph hho hbo hfn hnr hpn hcf HU5 HB5 HC5
    go_upto_region 4 with fail
    generalize hgF : W5.heap.size = gF at *
    generalize W5.alloc (.cells #[.string f.name, .int .i64 (pn : Int), .int .i64 (nr : Int), .slice bA f.blocks.length bc] 36) = W6 at *
    clear hgF f0 f1 f2 f3 c1
    have q1 := HF6.out.cell 1
    have q2 := HF6.out.cell 2
    by_cases hmany : (nr : Int) - (pn : Int) < 2
    · have HSu := Lib.hid (ClashSure_any W6 (HU.out.later HB6.out).ways)
      go_wp2_with fail
      refine HSu.out.mono ?_
      rintro e W7 ⟨rfl, hb7⟩
      have HB7 := Lib.hid (HB6.out.trans (hb7.mono HB6.out.size))
      clear hb7
      go_wp2_with fail
      go_ret
      exact ⟨rfl, HB7.out⟩
    · go_upto_region 7 with fail
      have HPa := Lib.hid (fun W : World => pickOf_any a ((nr : Int) - (pn : Int)) W (by omega) (by omega) Hab.out.1)
      have HPb := Lib.hid (fun W : World => pickOf_any b ((nr : Int) - (pn : Int)) W (by omega) (by omega) Hab.out.2)
      have ha1 := Int.emod_nonneg a (show (nr : Int) - (pn : Int) ≠ 0 by omega)
      have ha2 := Int.emod_lt_of_pos a (show (0 : Int) < (nr : Int) - (pn : Int) by omega)
      have hb1 := Int.emod_nonneg b (show (nr : Int) - (pn : Int) ≠ 0 by omega)
      have hb2 := Int.emod_lt_of_pos b (show (0 : Int) < (nr : Int) - (pn : Int) by omega)
      obtain ⟨xa, hxa⟩ : ∃ xa, a % ((nr : Int) - (pn : Int)) = xa := ⟨_, rfl⟩
      obtain ⟨xb, hxb⟩ : ∃ xb, b % ((nr : Int) - (pn : Int)) = xb := ⟨_, rfl⟩
      rw [hxa] at HPa ha1 ha2
      rw [hxb] at HPb hb1 hb2
      clear hxa hxb
      go_quiet (first | (go_at_call 23; refine Calls.quiet_of_same ((HPa.out _).mono fun _ _ h => ⟨h.1, h.2.symm⟩)))
      go_upto_region 8 with fail
      have HB7 := Lib.hid (below_drewN HB6.out nq)
      have HC7 : Hid (Blk (W6.drewN nq) w.heap.size 25 #[.slice gA gl gc, .slice (some ⟨fb, fo, none⟩) l c]) := Lib.hid HC6.out
      have HF7 : Hid (Blk (W6.drewN nq) gF 36 #[.string f.name, .int .i64 (pn : Int), .int .i64 (nr : Int), .slice bA f.blocks.length bc]) := Lib.hid HF6.out
      generalize W6.drewN nq = W7 at *
      clear HB6 HC6 HF6 q1 q2 HPa
      have q1 := HF7.out.cell 1
      go_quiet (first | (go_at_call 23; refine Calls.quiet_of_same ((HPb.out _).mono fun _ _ h => ⟨h.1, h.2.symm⟩)))
      have HB8 := Lib.hid (below_drewN HB7.out nq)
      have HC8 : Hid (Blk (W7.drewN nq) w.heap.size 25 #[.slice gA gl gc, .slice (some ⟨fb, fo, none⟩) l c]) := Lib.hid HC7.out
      have HF8 : Hid (Blk (W7.drewN nq) gF 36 #[.string f.name, .int .i64 (pn : Int), .int .i64 (nr : Int), .slice bA f.blocks.length bc]) := Lib.hid HF7.out
      generalize W7.drewN nq = W8 at *
      clear HB7 HC7 HF7 q1 HPb
      go_upto_region 9 with fail
      obtain ⟨p, hp⟩ : ∃ p, (pn : Int) + xa = p := ⟨_, rfl⟩
      obtain ⟨q, hq⟩ : ∃ q, (pn : Int) + xb = q := ⟨_, rfl⟩
      rw [hp, hq]
      have Hp : Hid (0 ≤ p ∧ p < (nr : Int)) := Lib.hid (by omega)
      have Hq : Hid (0 ≤ q ∧ q < (nr : Int)) := Lib.hid (by omega)
      clear hp hq ha1 ha2 hb1 hb2 hmany
      have hcs := clashF_sw (gs := gs) Hf.out (by rw [Hnr.out]; exact Hp.out) (by rw [Hnr.out]; exact Hq.out) HFac.out.1 Hcz.out
      have Hcs := Lib.hid hcs
      clear hcs
      have c0 := HC8.out.cell 0
      have c1 := HC8.out.cell 1
      have HCh := Lib.hid (Changed_any _ _ gs fs n f p q W8 Hf.out Hfl.out HFac.out.1 HFac.out.2.1 HFac.out.2.2 (by rw [Hnr.out]; exact Hp.out) (by rw [Hnr.out]; exact Hq.out) (HU.out.later HB8.out))
      go_wp2_with fail
      refine HCh.out.mono ?_
      rintro e W9 ⟨fv', rfl, hu9, hb9⟩
      obtain ⟨A', c', hfv', _, _⟩ := SlAt.form hu9.funs
      rw [List.length_set, Hl.out] at hfv'
      subst hfv'
      have HB10 : Hid (Below w.heap.size w (W9.alloc (.cells #[.slice gA gl gc, .slice A' l c'] 25))) := Lib.hid ((HB8.out.trans (hb9.mono HB8.out.size)).alloc (HB8.out.trans (hb9.mono HB8.out.size)).size _)
      have HC10 := Lib.hid ((HC8.out.below hb9 HC8.out.lt).alloc (.cells #[.slice gA gl gc, .slice A' l c'] 25))
      have HF10 := Lib.hid ((HF8.out.below hb9 HF8.out.lt).alloc (.cells #[.slice gA gl gc, .slice A' l c'] 25))
      have HV10 : Hid (Blk (W9.alloc (.cells #[.slice gA gl gc, .slice A' l c'] 25)) W9.heap.size 25 #[.slice gA gl gc, .slice A' l c']) := Lib.hid (Blk.new _ _ _)
      have HN10 := Lib.hid (hu9.later (w' := W9.alloc (.cells #[.slice gA gl gc, .slice A' l c'] 25)) ((Below.refl _ _).alloc (Nat.le_refl _) _))
      clear hu9 hb9 HCh HB8 HC8 HF8 c0 c1
      go_upto_region 10 with fail
      generalize W9.alloc (.cells #[.slice gA gl gc, .slice A' l c'] 25) = W10 at *
      generalize W9.heap.size = gV at *
      have Hrows1 : Hid (ofF gs fs (n : Int) = (List.range nr).map fun (r : Nat) => listS nr (ofS f.blocks (r : Int))) := Lib.hid (by
        unfold ofF
        rw [if_neg (by rw [Hcz.out]; simp), Int.toNat_natCast, Hf.out]
        show ofRows f = _
        unfold ofRows
        rw [Hnr.out, Int.toNat_natCast])
      have hf2 : (fs.set n (swF p q f))[n]? = some (swF p q f) := by rw [List.getElem?_set, if_pos rfl, if_pos (by rw [Hl.out]; exact hnl)]
      have Hrows2 : Hid (ofF gs (fs.set n (swF p q f)) (n : Int) = (List.range nr).map fun (r : Nat) => listS nr (ofS (f.blocks.map (swB p q)) (r : Int))) := Lib.hid (by
        unfold ofF
        rw [if_neg (by rw [Hcs.out]; simp), Int.toNat_natCast, hf2]
        show ofRows (swF p q f) = _
        unfold ofRows
        show ((List.range f.regs.toNat).map fun (a : Nat) => listS f.regs.toNat (ofS (f.blocks.map (swB p q)) (a : Int))) = _
        rw [Hnr.out, Int.toNat_natCast])
      have Hacr1 : Hid (acrossF gs fs (n : Int) = listS nr (acrossS (evAll f.blocks f.blocks.length))) := Lib.hid (by
        unfold acrossF
        rw [if_neg (by rw [Hcz.out]; simp), Int.toNat_natCast, Hf.out]
        show listS f.regs.toNat _ = _
        rw [Hnr.out, Int.toNat_natCast])
      have Hacr2 : Hid (acrossF gs (fs.set n (swF p q f)) (n : Int) = listS nr (acrossS (evAll (f.blocks.map (swB p q)) f.blocks.length))) := Lib.hid (by
        unfold acrossF
        rw [if_neg (by rw [Hcs.out]; simp), Int.toNat_natCast, hf2]
        show listS f.regs.toNat (acrossS (evAll (f.blocks.map (swB p q)) (f.blocks.map (swB p q)).length)) = _
        rw [Hnr.out, Int.toNat_natCast, List.length_map])
      clear hf2
      have c0 := HC10.out.cell 0
      have c1 := HC10.out.cell 1
      have HOf := Lib.hid (Of_any _ _ gs fs (n : Int) W10 Hk.out (HU.out.later HB10.out))
      rw [Hcz.out, Hrows1.out] at HOf
      go_wp2_with fail
      refine HOf.out.mono ?_
      rintro e W11 ⟨v1, rfl, ho, hb⟩
      have HB12 : Hid (Below w.heap.size w (W11.alloc (.cells #[.int .i64 0, .int .i64 0] 28))) := Lib.hid ((HB10.out.trans (hb.mono HB10.out.size)).alloc (HB10.out.trans (hb.mono HB10.out.size)).size _)
      have HC12 := Lib.hid ((HC10.out.below hb HC10.out.lt).alloc (.cells #[.int .i64 0, .int .i64 0] 28))
      have HF12 := Lib.hid ((HF10.out.below hb HF10.out.lt).alloc (.cells #[.int .i64 0, .int .i64 0] 28))
      have HV12 := Lib.hid ((HV10.out.below hb HV10.out.lt).alloc (.cells #[.int .i64 0, .int .i64 0] 28))
      have HN12 := Lib.hid (HN10.out.later (hb.alloc hb.size (.cells #[.int .i64 0, .int .i64 0] 28)))
      have HX12 := Lib.hid (ho.below (w' := W11.alloc (.cells #[.int .i64 0, .int .i64 0] 28)) ((Below.refl _ _).alloc (Nat.le_refl _) _) rfl)
      have HP12 : Hid (Blk (W11.alloc (.cells #[.int .i64 0, .int .i64 0] 28)) W11.heap.size 28 #[.int .i64 0, .int .i64 0]) := Lib.hid (Blk.new _ _ _)
      clear ho hb HOf HB10 HC10 HF10 HV10 HN10 c0 c1
      go_upto_region 11 with fail
      generalize W11.alloc (.cells #[.int .i64 0, .int .i64 0] 28) = W12 at *
      generalize W11.heap.size = gx at *
      have c0 := HV12.out.cell 0
      have c1 := HV12.out.cell 1
      have HOf := Lib.hid (Of_any _ _ gs (fs.set n (swF p q f)) (n : Int) W12 Hk.out HN12.out)
      rw [Hcs.out, Hrows2.out] at HOf
      go_wp2_with fail
      refine HOf.out.mono ?_
      rintro e W13 ⟨v2, rfl, ho, hb⟩
      have HB14 : Hid (Below w.heap.size w (W13.alloc (.cells #[.int .i64 0, .int .i64 0] 28))) := Lib.hid ((HB12.out.trans (hb.mono HB12.out.size)).alloc (HB12.out.trans (hb.mono HB12.out.size)).size _)
      have HC14 := Lib.hid ((HC12.out.below hb HC12.out.lt).alloc (.cells #[.int .i64 0, .int .i64 0] 28))
      have HF14 := Lib.hid ((HF12.out.below hb HF12.out.lt).alloc (.cells #[.int .i64 0, .int .i64 0] 28))
      have HV14 := Lib.hid ((HV12.out.below hb HV12.out.lt).alloc (.cells #[.int .i64 0, .int .i64 0] 28))
      have HN14 := Lib.hid (HN12.out.later (hb.alloc hb.size (.cells #[.int .i64 0, .int .i64 0] 28)))
      have HX14 := Lib.hid ((HX12.out.below hb rfl).below (w' := W13.alloc (.cells #[.int .i64 0, .int .i64 0] 28)) ((Below.refl _ _).alloc (Nat.le_refl _) _) rfl)
      have HY14 := Lib.hid (ho.below (w' := W13.alloc (.cells #[.int .i64 0, .int .i64 0] 28)) ((Below.refl _ _).alloc (Nat.le_refl _) _) rfl)
      have HP14 := Lib.hid ((HP12.out.below hb HP12.out.lt).alloc (.cells #[.int .i64 0, .int .i64 0] 28))
      have HQ14 : Hid (Blk (W13.alloc (.cells #[.int .i64 0, .int .i64 0] 28)) W13.heap.size 28 #[.int .i64 0, .int .i64 0]) := Lib.hid (Blk.new _ _ _)
      clear ho hb HOf HB12 HC12 HF12 HV12 HN12 HX12 HP12 c0 c1
      go_upto_region 12 with fail
      generalize W13.alloc (.cells #[.int .i64 0, .int .i64 0] 28) = W14 at *
      generalize W13.heap.size = gy at *
      have c0 := HC14.out.cell 0
      have c1 := HC14.out.cell 1
      have HOf := Lib.hid (Across_any _ _ gs fs (n : Int) W14 Hk.out (HU.out.later HB14.out))
      rw [Hcz.out, Hacr1.out] at HOf
      go_wp2_with fail
      refine HOf.out.mono ?_
      rintro e W15 ⟨v3, rfl, ho, hb⟩
      have HB16 : Hid (Below w.heap.size w (W15.alloc (.cells #[.int .i64 0, .int .i64 0] 28))) := Lib.hid ((HB14.out.trans (hb.mono HB14.out.size)).alloc (HB14.out.trans (hb.mono HB14.out.size)).size _)
      have HF16 := Lib.hid ((HF14.out.below hb HF14.out.lt).alloc (.cells #[.int .i64 0, .int .i64 0] 28))
      have HV16 := Lib.hid ((HV14.out.below hb HV14.out.lt).alloc (.cells #[.int .i64 0, .int .i64 0] 28))
      have HN16 := Lib.hid (HN14.out.later (hb.alloc hb.size (.cells #[.int .i64 0, .int .i64 0] 28)))
      have HX16 := Lib.hid ((HX14.out.below hb rfl).below (w' := W15.alloc (.cells #[.int .i64 0, .int .i64 0] 28)) ((Below.refl _ _).alloc (Nat.le_refl _) _) rfl)
      have HY16 := Lib.hid ((HY14.out.below hb rfl).below (w' := W15.alloc (.cells #[.int .i64 0, .int .i64 0] 28)) ((Below.refl _ _).alloc (Nat.le_refl _) _) rfl)
      have HS16 := Lib.hid (ho.below (w' := W15.alloc (.cells #[.int .i64 0, .int .i64 0] 28)) ((Below.refl _ _).alloc (Nat.le_refl _) _) rfl)
      have HP16 := Lib.hid ((HP14.out.below hb HP14.out.lt).alloc (.cells #[.int .i64 0, .int .i64 0] 28))
      have HQ16 := Lib.hid ((HQ14.out.below hb HQ14.out.lt).alloc (.cells #[.int .i64 0, .int .i64 0] 28))
      have HG16 : Hid (Blk (W15.alloc (.cells #[.int .i64 0, .int .i64 0] 28)) W15.heap.size 28 #[.int .i64 0, .int .i64 0]) := Lib.hid (Blk.new _ _ _)
      clear ho hb HOf HB14 HC14 HF14 HV14 HN14 HX14 HY14 HP14 HQ14 c0 c1
      go_upto_region 13 with fail
      generalize W15.alloc (.cells #[.int .i64 0, .int .i64 0] 28) = W16 at *
      generalize W15.heap.size = gs' at *
      have c0 := HV16.out.cell 0
      have c1 := HV16.out.cell 1
      have HOf := Lib.hid (Across_any _ _ gs (fs.set n (swF p q f)) (n : Int) W16 Hk.out HN16.out)
      rw [Hcs.out, Hacr2.out] at HOf
      go_wp2_with fail
      refine HOf.out.mono ?_
      rintro e W17 ⟨v4, rfl, ho, hb⟩
      have HB18 : Hid (Below w.heap.size w (W17.alloc (.cells #[.int .i64 0, .int .i64 0] 28))) := Lib.hid ((HB16.out.trans (hb.mono HB16.out.size)).alloc (HB16.out.trans (hb.mono HB16.out.size)).size _)
      have HF18 := Lib.hid ((HF16.out.below hb HF16.out.lt).alloc (.cells #[.int .i64 0, .int .i64 0] 28))
      have HX18 := Lib.hid ((HX16.out.below hb rfl).below (w' := W17.alloc (.cells #[.int .i64 0, .int .i64 0] 28)) ((Below.refl _ _).alloc (Nat.le_refl _) _) rfl)
      have HY18 := Lib.hid ((HY16.out.below hb rfl).below (w' := W17.alloc (.cells #[.int .i64 0, .int .i64 0] 28)) ((Below.refl _ _).alloc (Nat.le_refl _) _) rfl)
      have HS18 := Lib.hid ((HS16.out.below hb rfl).below (w' := W17.alloc (.cells #[.int .i64 0, .int .i64 0] 28)) ((Below.refl _ _).alloc (Nat.le_refl _) _) rfl)
      have HT18 := Lib.hid (ho.below (w' := W17.alloc (.cells #[.int .i64 0, .int .i64 0] 28)) ((Below.refl _ _).alloc (Nat.le_refl _) _) rfl)
      have HP18 := Lib.hid ((HP16.out.below hb HP16.out.lt).alloc (.cells #[.int .i64 0, .int .i64 0] 28))
      have HQ18 := Lib.hid ((HQ16.out.below hb HQ16.out.lt).alloc (.cells #[.int .i64 0, .int .i64 0] 28))
      have HG18 := Lib.hid ((HG16.out.below hb HG16.out.lt).alloc (.cells #[.int .i64 0, .int .i64 0] 28))
      have HH18 : Hid (Blk (W17.alloc (.cells #[.int .i64 0, .int .i64 0] 28)) W17.heap.size 28 #[.int .i64 0, .int .i64 0]) := Lib.hid (Blk.new _ _ _)
      clear ho hb HOf HB16 HF16 HV16 HN16 HX16 HY16 HS16 HP16 HQ16 HG16 c0 c1
      obtain ⟨xA, xc, rfl⟩ := HX18.out.form
      obtain ⟨yA, yc, rfl⟩ := HY18.out.form
      obtain ⟨sA, sc, rfl⟩ := row_form HS18.out
      obtain ⟨tA, tc, rfl⟩ := row_form HT18.out
      rw [List.length_map, List.length_range] at HX18 HY18
      simp only [List.length_map, List.length_range]
      go_upto_region 14 with fail
      generalize W17.alloc (.cells #[.int .i64 0, .int .i64 0] 28) = W18 at *
      generalize W17.heap.size = gh at *
      have hst : (listS nr (acrossS (evAll (f.blocks.map (swB p q)) f.blocks.length))).length = (listS nr (acrossS (evAll f.blocks f.blocks.length))).length := listS_sw Hp.out Hq.out (fun r => acrossS_sw f.blocks _ r)
      rw [hst] at HT18 ⊢
      obtain ⟨sl, hsl⟩ : ∃ sl, (listS nr (acrossS (evAll f.blocks f.blocks.length))).length = sl := ⟨_, rfl⟩
      rw [hsl] at HT18 HS18 ⊢
      clear hst hsl
      have e0 := HP18.out.cell 0
      have e1 := HQ18.out.cell 0
      have e2 := HG18.out.cell 0
      have e3 := HH18.out.cell 0
      have q2 := HF18.out.cell 2
      have HSu := Lib.hid (ClashSure_any W18 (HU.out.later HB18.out).ways)
      go_wp2_with fail
      refine HSu.out.mono ?_
      rintro e W20 ⟨rfl, hb⟩
      have HB20 := Lib.hid (HB18.out.trans (hb.mono HB18.out.size))
      have HF20 := Lib.hid (HF18.out.below hb HF18.out.lt)
      have HX20 := Lib.hid (HX18.out.below hb rfl)
      have HY20 := Lib.hid (HY18.out.below hb rfl)
      have hs20 := HS18.out.below hb rfl
      have ht20 := HT18.out.below hb rfl
      have HR1 := Lib.hid (fun r hr => rows_at (F := fun (r : Nat) => ofS f.blocks (r : Int)) HX20.out r hr)
      have HR2 := Lib.hid (fun r hr => rows_at (F := fun (r : Nat) => ofS (f.blocks.map (swB p q)) (r : Int)) HY20.out r hr)
      have HS20 := Lib.hid (OwnInts.ints hs20)
      have HT20 := Lib.hid (OwnInts.ints ht20)
      clear hb hs20 ht20 HB18 HF18 HX18 HY18 HS18 HT18 HP18 HQ18 HG18 HH18 HX20 HY20 HSu e0 e1 e2 e3 q2
      go_upto_region 17 with fail
      go_loopg [22] nr (fun gk i wx => ∃ r : Nat, r + gk = nr ∧ i = .int .i64 (r : Int) ∧ Hid (wx.heap = W20.heap ∧ Below w.heap.size w wx))
      case atStart => exact ⟨0, by omega, rfl, Lib.hid ⟨rfl, HB20.out⟩⟩
      case round =>
        obtain ⟨r, hr, rfl, HW⟩ := hrel
        have q2 : wr.cell? ⟨gF, 2, none⟩ = some (.int .i64 (nr : Int)) := (cell_heap HW.out.1 _).trans (HF20.out.cell 2)
        rcases gk with _ | mk
        · have hrt : ¬ (r : Int) < (nr : Int) := by omega
          go_wp2_with fail
          go_ret
          exact ⟨rfl, HW.out.2⟩
        · have hrt : (r : Int) < (nr : Int) := by omega
          have hr0 : (0 : Int) ≤ (r : Int) := Int.natCast_nonneg r
          have hsr := (swR_in Hp.out Hq.out (r : Int)).2 ⟨hr0, hrt⟩
          obtain ⟨sr, hsr'⟩ : ∃ sr : Nat, swR p q (r : Int) = (sr : Int) := ⟨(swR p q (r : Int)).toNat, by omega⟩
          rw [hsr'] at hsr
          have hsr0 := hsr.1
          have hsr1 := hsr.2
          have Hsr := Lib.hid hsr'
          have HSw : Hid (∀ k, Calls Tryd.prog 25 #[.int .i64 (r : Int), .int .i64 p, .int .i64 q] (wr.drewN k) fun e w' => e = .returned (.int .i64 (sr : Int)) ∧ w' = wr.drewN k) := Lib.hid (fun k => (swap_any (r : Int) p q (wr.drewN k)).mono fun _ _ h => ⟨by rw [h.1, hsr'], h.2.symm⟩)
          obtain ⟨hv, hhv⟩ : ∃ hv, hasN (listS nr (acrossS (evAll f.blocks f.blocks.length))) (r : Int) = hv := ⟨_, rfl⟩
          have hht : hasN (listS nr (acrossS (evAll (f.blocks.map (swB p q)) f.blocks.length))) (sr : Int) = hv := by
            rw [← hhv, Bool.eq_iff_iff, hasN_iff, hasN_iff, listS_mem, listS_mem, acrossS_sw, ← hsr', swR_swR]
            have := (swR_in Hp.out Hq.out (r : Int))
            constructor
            · rintro ⟨_, _, h⟩; exact ⟨hr0, hrt, h⟩
            · rintro ⟨_, _, h⟩; exact ⟨(this.2 ⟨hr0, hrt⟩).1, (this.2 ⟨hr0, hrt⟩).2, h⟩
          have HHs : Hid (∀ k, Calls Tryd.prog 20 #[.slice sA sl sc, .int .i64 (r : Int)] (wr.drewN k) fun e w' => e = .returned (.bool hv) ∧ w' = wr.drewN k) := Lib.hid (fun k => (hasInt_any _ _ (r : Int) _ (wr.drewN k) (ints_heap (w' := wr.drewN k) HW.out.1 HS20.out)).mono fun _ _ h => ⟨by rw [h.1, hhv], h.2.symm⟩)
          have HHt : Hid (∀ k, Calls Tryd.prog 20 #[.slice tA sl tc, .int .i64 (sr : Int)] (wr.drewN k) fun e w' => e = .returned (.bool hv) ∧ w' = wr.drewN k) := Lib.hid (fun k => (hasInt_any _ _ (sr : Int) _ (wr.drewN k) (ints_heap (w' := wr.drewN k) HW.out.1 HT20.out)).mono fun _ _ h => ⟨by rw [h.1, hht], h.2.symm⟩)
          obtain ⟨gx0, rA, rc, rfl, x0, hxi⟩ := HR1.out r (by omega)
          obtain ⟨gy0, qA, qc, rfl, y0, hyi⟩ := HR2.out sr (by omega)
          have hlen : (listS nr (ofS (f.blocks.map (swB p q)) (sr : Int))).length = (listS nr (ofS f.blocks (r : Int))).length := listS_sw Hp.out Hq.out (fun b => by rw [ofS_sw Hp.out.1 Hq.out.1, ← hsr', swR_swR])
          rw [hlen] at y0 hyi
          obtain ⟨L, hL⟩ : ∃ L, listS nr (ofS f.blocks (r : Int)) = L := ⟨_, rfl⟩
          rw [hL] at x0 hxi y0 hyi
          have HL := Lib.hid hL
          obtain ⟨ll, hll⟩ : ∃ ll, L.length = ll := ⟨_, rfl⟩
          rw [hll] at x0 hxi y0 hyi
          have Hll := Lib.hid hll
          have hll100 : ll ≤ 100 := by
            have h := listS_len nr (ofS f.blocks (r : Int))
            rw [hL, hll] at h
            omega
          have Hyi := Lib.hid hyi
          obtain ⟨A2, c2, e2, hx1, hx2, hx3⟩ := hxi
          obtain rfl : A2 = rA := ((Value.slice.inj e2).1).symm
          rw [hll] at hx3
          have Hx3 := Lib.hid hx3
          have Hx0 := Lib.hid x0
          have Hy0 := Lib.hid y0
          have x0 := (cell_heap HW.out.1 _).trans x0
          have y0 := (cell_heap HW.out.1 _).trans y0
          clear hsr hsr' hhv hht hlen hL hll hyi e2 hx1 hx2 hx3
          go_upto_region 19 with fail
          have hne : (hv != hv) = false := by cases hv <;> rfl
          go_quiet (first | (go_at_call 25; refine Calls.quiet_of_same (HSw.out _)) | (go_at_call_of 20 (Value.slice sA sl sc); refine Calls.quiet_of_same (HHs.out _)) | (go_at_call_of 20 (Value.slice tA sl tc); refine Calls.quiet_of_same (HHt.out _)))
          have HW21 : Hid ((wr.drewN nq).heap = W20.heap ∧ Below w.heap.size w (wr.drewN nq)) := Lib.hid ⟨HW.out.1, below_drewN HW.out.2 nq⟩
          generalize hW3 : wr.drewN nq = W21 at *
          clear hW3 HW q2 HSw HHs HHt x0 y0
          go_upto_region 22 with fail
          go_loopg [23] ll (fun gk i wx => ∃ o : Nat, o + gk = ll ∧ i = .int .i64 (o : Int) ∧ Hid (wx.heap = W20.heap ∧ Below w.heap.size w wx))
          case atStart => exact ⟨0, by omega, rfl, HW21⟩
          case round =>
            obtain ⟨o, ho, rfl, HW⟩ := hrel
            have x0 := (cell_heap HW.out.1 _).trans Hx0.out
            rcases gk with _ | nk
            · have hot : ¬ (o : Int) < (ll : Int) := by omega
              go_wp2_with fail
              go_roundg mk
              case measure => omega
              case rel => exact ⟨r + 1, by omega, by go_num, HW⟩
            · have hot : (o : Int) < (ll : Int) := by omega
              have ho0 : (0 : Int) ≤ (o : Int) := Int.natCast_nonneg o
              have y0 := (cell_heap HW.out.1 _).trans Hy0.out
              obtain ⟨rb, ro, rfl, _, hrc⟩ := Hx3.out (by omega)
              obtain ⟨bv, hbv⟩ : ∃ bv, L[o]? = some bv := ⟨_, List.getElem?_eq_getElem (by rw [Hll.out]; omega)⟩
              have r0 := (cell_heap HW.out.1 _).trans (hrc o bv hbv)
              have hbm := List.mem_of_getElem? hbv
              rw [← HL.out, listS_mem] at hbm
              have hin : hasN (listS nr (ofS (f.blocks.map (swB p q)) (sr : Int))) (swR p q bv) = true := by
                rw [hasN_iff, listS_mem]
                have := (swR_in Hp.out Hq.out bv).2 ⟨hbm.1, hbm.2.1⟩
                exact ⟨this.1, this.2, by rw [ofS_sw Hp.out.1 Hq.out.1, swR_swR, ← Hsr.out, swR_swR]; exact hbm.2.2⟩
              have HSr : Hid (∀ k, Calls Tryd.prog 25 #[.int .i64 (r : Int), .int .i64 p, .int .i64 q] (wr.drewN k) fun e w' => e = .returned (.int .i64 (sr : Int)) ∧ w' = wr.drewN k) := Lib.hid (fun k => (swap_any (r : Int) p q (wr.drewN k)).mono fun _ _ h => ⟨by rw [h.1, Hsr.out], h.2.symm⟩)
              have HSb : Hid (∀ k, Calls Tryd.prog 25 #[.int .i64 bv, .int .i64 p, .int .i64 q] (wr.drewN k) fun e w' => e = .returned (.int .i64 (swR p q bv)) ∧ w' = wr.drewN k) := Lib.hid (fun k => (swap_any bv p q (wr.drewN k)).mono fun _ _ h => ⟨h.1, h.2.symm⟩)
              have HHy : Hid (∀ k, Calls Tryd.prog 20 #[.slice qA ll qc, .int .i64 (swR p q bv)] (wr.drewN k) fun e w' => e = .returned (.bool true) ∧ w' = wr.drewN k) := Lib.hid (fun k => (hasInt_any _ _ (swR p q bv) _ (wr.drewN k) (ints_heap (w' := wr.drewN k) HW.out.1 Hyi.out)).mono fun _ _ h => ⟨by rw [h.1, hin], h.2.symm⟩)
              obtain ⟨sb, hsb⟩ : ∃ sb, swR p q bv = sb := ⟨_, rfl⟩
              rw [hsb] at HSb HHy
              clear hrc hbv hbm hin hsb
              go_upto_region 24 with fail
              go_quiet (first | (go_at_call_of 25 (Value.int IntKind.i64 (r : Int)); refine Calls.quiet_of_same (HSr.out _)) | (go_at_call_of 25 (Value.int IntKind.i64 bv); refine Calls.quiet_of_same (HSb.out _)) | (go_at_call 20; refine Calls.quiet_of_same (HHy.out _)))
              have HW24 : Hid ((wr.drewN nq).heap = W20.heap ∧ Below w.heap.size w (wr.drewN nq)) := Lib.hid ⟨HW.out.1, below_drewN HW.out.2 nq⟩
              generalize wr.drewN nq = W24 at *
              clear HW x0 y0 r0 HSr HSb HHy
              go_wp2_with fail
              go_roundg nk
              case measure => omega
              case rel => exact ⟨o + 1, by omega, by go_num, HW24⟩
end Go.Proofs.YtgnkkgbjcodihaaDoor
