/-
  Several texts in one (OfF OfG): what each proves stands at its theorems.
  Conditions: as the theorems say.
-/
import Derived.Test.YtiknhfbkphoceaaGreatDoorOfE
namespace Go.Proofs.YtiknhfbkphoceaaGreatDoor
open Go.RowKit

set_option maxRecDepth 100000 in
set_option maxHeartbeats 8000000 in
theorem RClashOf_any (gv fv : Value) (gs : List Glob) (fs : List FunU) (k : Int) (w : World) (hk : I64 k) (hu : UnitAt w w.heap.size gv fv gs fs) :
    Calls Tryz.prog 19 #[.agg #[gv, fv], .int .i64 k] w (RowsPost w (clashF gs fs k) (ofF gs fs k)) := by
  have HU := Lib.hid hu
  obtain ⟨A, c, rfl, hl1, hl2⟩ := SlAt.form hu.funs
  obtain ⟨l, hl⟩ : ∃ l, fs.length = l := ⟨_, rfl⟩
  rw [hl] at HU hl1 ⊢
  have Hl := Lib.hid hl
  have HP : Hid (∀ e w', (∃ v, e = .returned (.tuple #[v, .agg #[.int .i64 (clashF gs fs k).1, .int .i64 (clashF gs fs k).2]]) ∧ RowsOwn w' w.heap.size v (ofF gs fs k) ∧ Below w.heap.size w w') → RowsPost w (clashF gs fs k) (ofF gs fs k) e w') := Lib.hid fun _ _ h => h
  generalize RowsPost w (clashF gs fs k) (ofF gs fs k) = PE at *
  have Hk : Hid (I64 k) := Lib.hid hk
  have HW0 : Hid (Below w.heap.size w ((w.alloc (.cells #[gv, .slice A l c] 25)).alloc (.cells #[.int .i64 0, .int .i64 0] 28))) := Lib.hid (((Below.refl _ _).alloc (Nat.le_refl _) _).alloc (by simp) _)
  have HC0 : Hid (Blk ((w.alloc (.cells #[gv, .slice A l c] 25)).alloc (.cells #[.int .i64 0, .int .i64 0] 28)) w.heap.size 25 #[gv, .slice A l c]) := Lib.hid ((Blk.new w _ _).alloc _)
  have HX0 : Hid (Blk ((w.alloc (.cells #[gv, .slice A l c] 25)).alloc (.cells #[.int .i64 0, .int .i64 0] 28)) (w.heap.size + 1) 28 #[.int .i64 0, .int .i64 0]) := Lib.hid (by simpa using Blk.new (w.alloc (.cells #[gv, .slice A l c] 25)) 28 #[.int .i64 0, .int .i64 0])
  clear hu hk hl
  go_enter Tryz.func19, Tryz.ntmps19
  go_upto_region 1 with fail
  generalize (w.alloc (.cells #[gv, .slice A l c] 25)).alloc (.cells #[.int .i64 0, .int .i64 0] 28) = W0 at *
  generalize hg1 : w.heap.size + 1 = g1 at *
  have c0 := HC0.out.cell 0
  have c1 := HC0.out.cell 1
  have HU0 := Lib.hid (HU.out.later HW0.out)
  go_wp2_with fail
  refine (RFault_any gv _ gs fs k W0 Hk.out HU0.out).mono ?_
  rintro e W1 ⟨rfl, hb1⟩
  obtain ⟨uc, ua, hun⟩ : ∃ uc ua, clashF gs fs k = (uc, ua) := ⟨_, _, rfl⟩
  rw [hun]
  have Hun := Lib.hid hun
  clear hun
  have HB1 : Hid (Below w.heap.size w W1) := Lib.hid (HW0.out.trans (hb1.mono HW0.out.size))
  have HC1 := Lib.hid (HC0.out.below hb1 HC0.out.lt)
  have HX1 := Lib.hid (HX0.out.below hb1 HX0.out.lt)
  clear hb1 c0 c1 HU0 HC0 HX0 HW0
  have x0 := HX1.out.cell 0
  have x1 := HX1.out.cell 1
  have hfz := HX1.out.frozen 0
  have hfz1 := HX1.out.frozen 1
  have hgl := HX1.out.lt
  have hg0 := HC1.out.lt
  have hul : w.heap.size ≠ g1 := by omega
  have Hlg : Hid (w.heap.size ≤ g1) := Lib.hid (by omega)
  clear hg1
  by_cases h0 : uc = 0
  · subst h0
    have hcz := clashF_zero (gs := gs) (fs := fs) (k := k) (by rw [Hun.out])
    obtain rfl : ua = 0 := by
      have := hcz.1
      rw [Hun.out] at this
      injection this
    obtain ⟨f, hf, hk0, hk1, hph, hho, hbo⟩ := hcz.2.2
    obtain ⟨n, rfl⟩ : ∃ n : Nat, k = (n : Int) := ⟨k.toNat, by omega⟩
    have hnl : n < l := by rw [Hl.out] at hk1; omega
    obtain ⟨fb, fo, f', bA, bc, rfl, hfb, hfn, f0, f1, f2, f3, hblw⟩ := FunsAt.one HU.out.funs hnl
    obtain rfl : f = f' := by
      rw [Int.toNat_natCast] at hf
      rw [hf] at hfn
      exact Option.some.inj hfn
    obtain ⟨bl, hbl2⟩ : ∃ bl, f.blocks.length = bl := ⟨_, rfl⟩
    obtain ⟨nr, hnr⟩ : ∃ nr : Nat, f.regs = (nr : Int) := ⟨f.regs.toNat, by have := hho.p0; have := hho.r0; omega⟩
    have hnr1 : nr ≤ 100 := by have := hho.r1; omega
    rw [hbl2] at f3 hblw
    rw [hnr] at f2
    have Hf0 := Lib.hid (And.intro f0 (And.intro f1 (And.intro f2 f3)))
    have Hfb := Lib.hid hfb
    have HBL := Lib.hid hblw
    have HE : Hid (ofF gs fs (n : Int) = (List.range nr).map fun (a : Nat) => listS nr (ofS f.blocks (a : Int))) := Lib.hid (by
      unfold ofF
      rw [if_neg (by rw [Hun.out]; simp), hf]
      show ofRows f = _
      unfold ofRows
      rw [hnr]
      simp)
    have hbl40 : bl ≤ 40 := by rw [← hbl2]; exact hho.b1
    have HTo : Hid (∀ b ∈ f.blocks, ∀ t ∈ b.to, 0 ≤ t ∧ t < (f.blocks.length : Int)) := Lib.hid (fun b hb t ht => by have := (hbo.ends b hb).to t ht; omega)
    have Hbl := Lib.hid hbl2
    have hn1 : (n : Int) < (l : Int) := by omega
    have hz1 := HB1.out.size
    have HB2 : Hid (Below w.heap.size w ((W1.alloc (.cells #[.int .i64 0, .int .i64 0] 28)).alloc (.cells #[.string f.name, .int .i64 f.params, .int .i64 (nr : Int), .slice bA bl bc] 43))) := Lib.hid ((HB1.out.alloc hz1 _).alloc (by simp; omega) _)
    have HC2 := Lib.hid ((HC1.out.alloc (.cells #[.int .i64 0, .int .i64 0] 28)).alloc (.cells #[.string f.name, .int .i64 f.params, .int .i64 (nr : Int), .slice bA bl bc] 43))
    have HX2 := Lib.hid ((HX1.out.alloc (.cells #[.int .i64 0, .int .i64 0] 28)).alloc (.cells #[.string f.name, .int .i64 f.params, .int .i64 (nr : Int), .slice bA bl bc] 43))
    have HF2 : Hid (Blk ((W1.alloc (.cells #[.int .i64 0, .int .i64 0] 28)).alloc (.cells #[.string f.name, .int .i64 f.params, .int .i64 (nr : Int), .slice bA bl bc] 43)) (W1.heap.size + 1) 43 #[.string f.name, .int .i64 f.params, .int .i64 (nr : Int), .slice bA bl bc]) := Lib.hid (by
      have h := Blk.new (W1.alloc (.cells #[.int .i64 0, .int .i64 0] 28)) 43 #[.string f.name, .int .i64 f.params, .int .i64 (nr : Int), .slice bA bl bc]
      rw [World.size_alloc] at h
      exact h)
    have hfb1 : fb < W1.heap.size := Nat.lt_of_lt_of_le hfb HB1.out.size
    have f0 := (bcell HB1.out hfb).trans f0
    have f1 := (bcell HB1.out hfb).trans f1
    have f2 := (bcell HB1.out hfb).trans f2
    have f3 := (bcell HB1.out hfb).trans f3
    have c1 := HC1.out.cell 1
    clear hcz hf hk0 hk1 hph hfn hblw hnr Hf0 Hfb
    go_upto_region 5 with fail
    generalize (W1.alloc (.cells #[.int .i64 0, .int .i64 0] 28)).alloc (.cells #[.string f.name, .int .i64 f.params, .int .i64 (nr : Int), .slice bA bl bc] 43) = W2 at *
    generalize hgf : W1.heap.size + 1 = gf at *
    clear x0 x1 hfz hfz1 HB1 HC1 HX1 hgl hg0 c1 f0 f1 f2 f3
    clear hul
    have q0 := HF2.out.cell 0
    have q1 := HF2.out.cell 1
    have q2 := HF2.out.cell 2
    have q3 := HF2.out.cell 3
    have HLA := Lib.hid (LiveAll_any f.name f.params nr bA bl bc f.blocks W2 hnr1 (HBL.out.move HB2.out.size (kept_of HB2.out (Nat.le_refl _))) hbl40 HTo.out)
    have HOk : Hid (∀ b ∈ f.blocks, ∀ x ∈ b.list, InsOk (fs.map FunU.params) f.regs x) := Lib.hid hbo.list
    have Hb0 : Hid (0 < bl) := Lib.hid (by rw [← hbl2]; exact hho.b0)
    clear hho hbo hbl2
    go_wp2_with fail
    refine HLA.out.mono ?_
    rintro e W3 ⟨v, rfl, hlv, hb3⟩
    have HB3 := Lib.hid (HB2.out.trans (hb3.mono HB2.out.size))
    have HF3 := Lib.hid (HF2.out.below hb3 HF2.out.lt)
    have HX3 := Lib.hid (HX2.out.below hb3 HX2.out.lt)
    obtain ⟨vA, vc, rfl⟩ := hlv.form
    have HLv := Lib.hid hlv
    clear hb3 hlv HLA HB2 HC2 HF2 HX2 q0 q1 q2 q3
    go_upto_region 8 with fail
    go_loopg [9, 10] nr (fun gk s i wr => ∃ j : Nat, j + gk = nr ∧ i = .int .i64 (j : Int) ∧ Hid (RowsOwn wr W3.heap.size s ((List.range j).map fun (a : Nat) => listS nr (ofS f.blocks (a : Int)))) ∧ Hid (Below W3.heap.size W3 wr))
    case atStart => exact ⟨0, by omega, rfl, Lib.hid (RowsOwn.nil _ _), Lib.hid (Below.refl _ _)⟩
    case round =>
      obtain ⟨j, hj, rfl, HO, HB⟩ := hrel
      have HFj := Lib.hid (HF3.out.below HB.out HF3.out.lt)
      have q0 := HFj.out.cell 0
      have q1 := HFj.out.cell 1
      have q2 := HFj.out.cell 2
      have q3 := HFj.out.cell 3
      rcases gk with _ | mk
      · have hjt : ¬ (j : Int) < (nr : Int) := by omega
        have HX := Lib.hid (HX3.out.below HB.out HX3.out.lt)
        have x0 := HX.out.cell 0
        have x1 := HX.out.cell 1
        have z0 := HX.out.frozen 0
        have z1 := HX.out.frozen 1
        obtain rfl : j = nr := by omega
        have HO9 := Lib.hid (HO.out.more HB3.out.size)
        have HB9 := Lib.hid (HB3.out.trans (HB.out.mono HB3.out.size))
        go_wp2_with fail
        refine end_tmp_cell rfl rfl (HX.out.set2 _ _) Tryz.underlying28 rfl (by kernel_rfl) rfl (HP.out _ _ ⟨_, by rw [Hun.out], ?_, ?_⟩)
        · rw [HE.out]
          exact (HO9.out.far HX.out (by decide) (by decide) _ _).far (HX.out.set_ 0 _) (by decide) (by decide) _ _
        · exact (HB9.out.setCell Hlg.out _).setCell Hlg.out _
      · have hjt : (j : Int) < (nr : Int) := by omega
        have hj0 : (0 : Int) ≤ (j : Int) := Int.natCast_nonneg j
        go_upto_region 12 with fail
        generalize hW5 : wr = W5 at *
        clear hW5
        go_loopg [11, 12] nr (fun gk s i wx => ∃ q : Nat, q + gk = nr ∧ i = .int .i64 (q : Int) ∧ Hid (OwnInts wx W5.heap.size s (listS q (ofS f.blocks (j : Int)))) ∧ Hid (Below W5.heap.size W5 wx))
        case atStart => exact ⟨0, by omega, rfl, Lib.hid (OwnInts.nil _ _), Lib.hid (Below.refl _ _)⟩
        case round =>
          obtain ⟨q, hq, rfl, HOq, HBq⟩ := hrel
          clear q0 q1 q2 q3
          have HFq := Lib.hid (HFj.out.below HBq.out HFj.out.lt)
          have q0 := HFq.out.cell 0
          have q1 := HFq.out.cell 1
          have q2 := HFq.out.cell 2
          have q3 := HFq.out.cell 3
          rcases gk with _ | nk
          · have hqt : ¬ (q : Int) < (nr : Int) := by omega
            obtain rfl : q = nr := by omega
            obtain ⟨rs, hr1, hr2, hr3⟩ := HO.out.below HBq.out rfl
            have hrl : rs.length = j := by rw [hr1]; simp
            have HO8 : Hid (OwnInts wr W3.heap.size u11 (listS q (ofS f.blocks (j : Int)))) := Lib.hid (row_more HOq.out HB.out.size)
            obtain ⟨A8, c8, rfl⟩ := row_form HOq.out
            have Hr := Lib.hid (And.intro hr1 (And.intro hr2 hr3))
            have HBz := Lib.hid (HB.out.trans (HBq.out.mono HB.out.size))
            have hz8 := HBz.out.size
            clear hr1 hr2 hr3 HO HOq HBq HB
            go_wp2_with (at_builtin; refine app_one rfl _ _ 33 26 rfl (.slice none 0 0) 1 24 Tryz.underlying33 info_ints rfl (by decide) (by decide) W3.heap.size _ _ _ (by rfl) Hr.out.2.1 _ [.slice A8 (listS q (ofS f.blocks (j : Int))).length c8] (by rfl) rfl (fun x hx => by simp at hx; subst hx; rfl) rfl (by omega) hz8 ?_; intro v9 w9 HA9)
            have HO9 : Hid (RowsOwn w9 W3.heap.size v9 ((List.range (j + 1)).map fun (a : Nat) => listS q (ofS f.blocks (a : Int)))) := Lib.hid (by
              rw [List.range_succ, List.map_append]
              exact RowsOwn.snoc Hr.out.1 Hr.out.2.1 Hr.out.2.2 HO8.out HA9.out)
            have HB9 := Lib.hid (HBz.out.trans HA9.out.below)
            go_roundg mk
            case measure => omega
            case rel => exact ⟨j + 1, by omega, by go_num, HO9, HB9⟩
          · have hqt : (q : Int) < (nr : Int) := by omega
            have hq0 : (0 : Int) ≤ (q : Int) := Int.natCast_nonneg q
            have HBz := Lib.hid (HB.out.trans (HBq.out.mono HB.out.size))
            have HCl := Lib.hid (fun wx (hx : Below W3.heap.size W3 wx) => Clashing_any f.name f.params nr bA bl bc f.blocks _ vA vc j q wx (HBL.out.move (HB3.out.trans (hx.mono HB3.out.size)).size (kept_of (HB3.out.trans (hx.mono HB3.out.size)) (Nat.le_refl _))) Hbl.out hbl40 Hb0.out (HLv.out.below hx) (by omega) (by omega))
            go_upto_region 14 with fail
            go_cut [48] from 39 to 48 (fun s wx => s = .bool (ofS f.blocks (j : Int) (q : Int)) ∧ Hid (OwnInts wx W5.heap.size u11 (listS q (ofS f.blocks (j : Int)))) ∧ Hid (Below W5.heap.size W5 wx))
            case first =>
              by_cases hjq : j = q
              · subst hjq
                have HV : Hid (ofS f.blocks (j : Int) (j : Int) = false) := Lib.hid (by unfold ofS clashS beginS; simp)
                go_wp2_with fail
                go_meet
                exact ⟨ret_bool' HV.out.symm, HOq, HBq⟩
              · have hjb : ((j : Int) != (q : Int)) = true := by
                  have : (j : Int) ≠ (q : Int) := by omega
                  simpa using this
                have HV : Hid (clashB f.blocks (j : Int) (q : Int) = ofS f.blocks (j : Int) (q : Int)) := Lib.hid (clashB_all HOk.out (by omega) hj0 hq0)
                clear hjq
                go_wp2_with fail
                refine (HCl.out wr HBz.out).mono ?_
                rintro e w8 ⟨rfl, hb8⟩
                rw [HV.out]
                have HO8 := Lib.hid (HOq.out.below hb8 rfl)
                have HB8 := Lib.hid (HBq.out.trans (hb8.mono HBq.out.size))
                clear hb8
                go_wp2_with fail
                go_meet
                exact ⟨rfl, HO8, HB8⟩
            case rest =>
              obtain ⟨rfl, HO5, HB5⟩ := hcut
              clear HOq HBq HBz HCl q0 q1 q2 q3 HFq
              obtain ⟨ev, hev⟩ : ∃ ev, ofS f.blocks (j : Int) (q : Int) = ev := ⟨_, rfl⟩
              rw [hev]
              cases ev with
              | false =>
                have HO6 : Hid (OwnInts wc W5.heap.size u11 (listS (q + 1) (ofS f.blocks (j : Int)))) := Lib.hid (by rw [listS_succ, hev, if_neg (by simp)]; exact HO5.out)
                clear hev
                go_wp2_with fail
                go_roundg nk
                case measure => omega
                case rel => exact ⟨q + 1, by omega, by go_num, HO6, HB5⟩
              | true =>
                have HE4 : Hid (listS (q + 1) (ofS f.blocks (j : Int)) = listS q (ofS f.blocks (j : Int)) ++ [(q : Int)]) := Lib.hid (by rw [listS_succ, hev, if_pos rfl])
                have hll := listS_len q (ofS f.blocks (j : Int))
                have hz := HB5.out.size
                clear hev
                go_wp2_with (at_builtin; refine app_one rfl _ _ 26 3 rfl (.int .i64 0) 1 8 Tryz.underlying26 infoInt rfl (by decide) (by decide) W5.heap.size _ _ _ (by rfl) HO5.out _ [.int .i64 (q : Int)] (by rfl) rfl (fun x hx => by simp at hx; subst hx; rfl) rfl (by omega) hz ?_; intro v4 w4 HA4)
                have HO6 : Hid (OwnInts w4 W5.heap.size v4 (listS (q + 1) (ofS f.blocks (j : Int)))) := Lib.hid (by
                  rw [HE4.out]
                  unfold OwnInts
                  rw [List.length_append, List.map_append]
                  exact HA4.out.own)
                have HB6 := Lib.hid (HB5.out.trans HA4.out.below)
                go_roundg nk
                case measure => omega
                case rel => exact ⟨q + 1, by omega, by go_num, HO6, HB6⟩
  · have hub : (uc != 0) = true := by simpa using h0
    have HE : Hid (ofF gs fs k = []) := Lib.hid (by unfold ofF; rw [if_pos (by rw [Hun.out]; exact h0)])
    clear h0
    go_wp2_with fail
    go_region
    all_goals
      go_wp2_with fail
      refine end_tmp_cell rfl rfl (Blk.alloc (HX1.out.set2 _ _) _) Tryz.underlying28 rfl (by kernel_rfl) rfl (HP.out _ _ ⟨_, by rw [Hun.out], ?_, ?_⟩)
      · rw [HE.out]; exact RowsOwn.nil _ _
      · exact below_drewN (Below.alloc (((HB1.out.setCell Hlg.out _).setCell Hlg.out _)) (by simp; exact HB1.out.size) _) 1
end Go.Proofs.YtiknhfbkphoceaaGreatDoor
namespace Go.Proofs.YtiknhfbkphoceaaGreatDoor
open Go.RowKit

theorem below_drew {B : Nat} {a w : World} (h : Below B a w) : Below B a w.drew := ⟨h.os, h.tape, h.output, h.size, h.block⟩
end Go.Proofs.YtiknhfbkphoceaaGreatDoor
