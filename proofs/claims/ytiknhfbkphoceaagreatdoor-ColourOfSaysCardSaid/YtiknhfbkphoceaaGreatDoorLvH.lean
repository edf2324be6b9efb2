/-
  live.AllOf a function without phis.
  Conditions: as the theorems say.
-/
import Derived.Test.YtiknhfbkphoceaaGreatDoorLvG
import Derived.StillTailTactics
namespace Go.Proofs.YtiknhfbkphoceaaGreatDoor
open Go.RowKit
attribute [local go_sem] Oper.semAt_some

/-- What live.AllOf comes to. -/
def AllPost (w : World) (blocks : List BlkU) (n : Nat) (e : Ending) (w' : World) : Prop :=
  ∃ iv ov gi go, e = .returned (.tuple #[iv, ov]) ∧ SetsOwn w' w.heap.size iv gi n (inU blocks) ∧ gi.length = blocks.length ∧ SetsOwn w' w.heap.size ov go n (outsU blocks (inU blocks)) ∧ go.length = blocks.length ∧ Below w.heap.size w w'
theorem RowsG.more {w : World} {base base' ga bl : Nat} {R : Nat → Value} {F : Nat → List Int} (h : RowsG w base ga bl R F) (hb : base' ≤ base) : RowsG w base' ga bl R F :=
  ⟨h.blk, Nat.le_trans hb h.ge, fun q hq => row_more (h.own q hq) hb, h.ap⟩
theorem LNow.swap {w wr : World} {gf ga bl n : Nat} {fc : Array Value} {R : Nat → Value} {F : Nat → List Int} {iv ov : Value} {gi go : List (Nat × Nat)} {I G : Nat → Int → Bool} (h : LNow w gf ga bl n fc R F iv ov gi go I G wr) : LNow w gf ga bl n fc R F ov iv go gi G I wr :=
  ⟨h.below, h.far, h.fn, h.rows, h.outs, h.ins, fun k hk hk' => h.apart k hk' hk⟩
theorem LNow.none {w wr : World} {gf ga bl n : Nat} {fc : Array Value} {R : Nat → Value} {F : Nat → List Int} {iv ov : Value} {gi go : List (Nat × Nat)} {I G : Nat → Int → Bool} (h : LNow w gf ga bl n fc R F iv ov gi go I G wr) (G' : Nat → Int → Bool) : LNow w gf ga bl n fc R F iv (.slice none 0 0) gi [] I G' wr :=
  ⟨h.below, h.far, h.fn, h.rows, h.ins, SetsOwn.nil _ _ _ _, fun k _ hk => by cases hk⟩
/-- The end of a function of two results, behind loops over iterators. -/
theorem end_two_m {P : Program} {F : Fence} {n : Nat} {fn : Func} {R : Ending → World → Prop} {a : Act} {w : World} {p q : Tmp} {B : Nat} (hM : Marks B a.defers w) (h : fn.results = #[.tmp p, .tmp q])
    (hR : ∀ w', Stands w w' → Below B w w' → R (.returned (.tuple #[a.tmps.getD p undef, a.tmps.getD q undef])) w') : bodyPostM F n P fn R .ret a w :=
  run_results_frame a.defers w hM fun w' hs hk => ⟨.tuple #[a.tmps.getD p undef, a.tmps.getD q undef], by simp [results, h], hR w' hs (hs.below hk)⟩
theorem SetsOwn.stands {w w' : World} {base : Nat} {v : Value} {gs : List (Nat × Nat)} {n : Nat} {F : Nat → Int → Bool} (h : SetsOwn w base v gs n F) (hs : Stands w w') : SetsOwn w' base v gs n F := by
  refine ⟨⟨h.own.1, ?_⟩, fun i g hg => ⟨(h.set i g hg).1, by obtain ⟨tl, h2⟩ := (h.set i g hg).2; exact ⟨tl, hs.blk h2⟩⟩⟩
  rcases h.own.2 with h2 | ⟨g, cap, cur, e, hg, hh, h3⟩
  · exact .inl h2
  · exact .inr ⟨g, cap, cur, e, hg, hs.same _ _ hh (by intro l e; cases e), h3⟩
theorem Marks.app {B : Nat} {ds : List Deferred} {w w' : World} {base : Nat} {e : TypeId} {size : Nat} {v v' : Value} {n n0 : Nat} {xs xs0 : List Value} {H : Nat} (h : Marks B ds w) (ho : w.ownsRow base e size v n0 xs0) (ha : Appended w base e size v n xs H v' w') : Marks B ds w' :=
  h.kept fun D _ hD => (ha.2.2.1.block D (Array.getElem?_eq_some_iff.1 hD).1 (fun e' => by
    rcases ho.2 with ⟨rfl, _⟩ | ⟨g, cap, cur, rfl, _, hg, _⟩
    · cases e'
    · injection e' with e'
      simp only at e'
      subst e'
      rw [hD] at hg
      cases hg)).trans hD
/-- .. within the loop back through a block's instructions. -/
def BNow (W9 : World) (B g n c : Nat) (tl : List Value) (S : Int → Bool) (z : Nat) (xs : List InsU) (pre : List (BackEl W9 B xs)) (W : World) : Prop :=
  Blk W g 4 (boolsT tl (setOf n (backS (pre.map BackEl.ins) S))) ∧ Blk W z 129 #[.slice (some ⟨g, 0, none⟩) n c] ∧ BelowBut g W9.heap.size W9 W
theorem BackEl.mem {W0 : World} {B : Nat} {xs : List InsU} (q : BackEl W0 B xs) : q.ins ∈ xs := List.mem_of_getElem? q.2.1
theorem occVs_in {vs : List Opd} {regs : Int} (h : ∀ v ∈ vs, v.reg = true → 0 ≤ v.n ∧ v.n < regs) : ∀ r ∈ occVs vs, 0 ≤ r ∧ r < regs := by
  intro r hr
  unfold occVs at hr
  simp only [List.mem_flatten, List.mem_map] at hr
  obtain ⟨_, ⟨v, hv, rfl⟩, hr⟩ := hr
  unfold occV at hr
  split at hr
  · rename_i hreg
    simp only [List.mem_singleton] at hr
    subst hr
    exact h v hv hreg
  · cases hr
set_option maxRecDepth 100000 in
set_option maxHeartbeats 4000000 in
theorem AllOf_any (fps : List Int) (nm : ByteArray) (ps : Int) (n : Nat) (bA : Option Addr) (bl bc : Nat) (blocks : List BlkU) (w : World) (hn : n ≤ 100) (hb : BlksAt w w.heap.size (.slice bA bl bc) blocks) (hbl : bl ≤ 40) (hph : ∀ b ∈ blocks, b.phis = [])
    (hto : ∀ b ∈ blocks, b.to.length ≤ 2 ∧ ∀ t ∈ b.to, 1 ≤ t ∧ t < (blocks.length : Int)) (hins : ∀ b ∈ blocks, ∀ x ∈ b.list, InsOk fps (n : Int) x) (hon : ∀ b ∈ blocks, b.on.reg = true → 0 ≤ b.on.n ∧ b.on.n < (n : Int)) :
    Calls Tryz.prog 57 #[.agg #[.string nm, .int .i64 ps, .int .i64 (n : Int), .slice bA bl bc]] w (AllPost w blocks n) := by
  have HRg : Hid (Ranged blocks n) := Lib.hid ⟨fun b hb x hx r hr => by
    have h := hins b hb x hx
    rw [takes_vals h, decide_eq_true_eq] at hr
    exact occVs_in (fun v hv => vals_in h v hv) r hr, fun b hb r hr => by
    unfold occV at hr
    split at hr
    · rename_i h
      simp only [List.mem_singleton] at hr
      subst hr
      exact hon b hb h
    · cases hr⟩
  have HBl := Lib.hid hb
  have hlen := SlAt.len hb
  have HL := Lib.hid hlen
  have HTo := Lib.hid hto
  have HPh := Lib.hid hph
  have HIns := Lib.hid hins
  have HOn := Lib.hid hon
  have hbl1 : blocks.length ≤ 40 := by omega
  have hmk := fun W : World => run_make_row' (P := Tryz.prog) 129 4 (.bool false) 1 Tryz.underlying129 infoBool rfl .i64 .i64 n (by omega) (by omega) W
  have HAh := fun W (h : Below w.heap.size w W) => GAhead_any bA bl bc nm ps (n : Int) blocks W (HBl.out.move h.size (kept_of h (Nat.le_refl _))) hbl1 hto
  have HB0 : Hid (Below w.heap.size w (w.alloc (.cells #[.string nm, .int .i64 ps, .int .i64 (n : Int), .slice bA bl bc] 43))) := Lib.hid ((Below.refl _ _).alloc (Nat.le_refl _) _)
  have HF0 : Hid (Blk (w.alloc (.cells #[.string nm, .int .i64 ps, .int .i64 (n : Int), .slice bA bl bc] 43)) w.heap.size 43 #[.string nm, .int .i64 ps, .int .i64 (n : Int), .slice bA bl bc]) := Lib.hid (Blk.new _ _ _)
  clear hb hlen hto hph hins hon hbl1
  have HAh := Lib.hid HAh
  refine (callsIn_wide (n := 3)).1 (callsIn_of_wp_marks Tryz.func57 rfl trivial (wpIn_wide.2 ?_) rfl)
  simp only [Tryz.ntmps57, List.size_toArray, List.length_cons, List.length_nil, Nat.reduceAdd, Nat.reduceSub, Array.replicate_succ, Array.replicate_zero, List.push_toArray, List.append_toArray, List.nil_append, List.cons_append]
  go_upto_region 1 with fail
  generalize w.alloc (.cells #[.string nm, .int .i64 ps, .int .i64 (n : Int), .slice bA bl bc] 43) = W0 at *
  have c0 := HF0.out.cell 0
  have c1 := HF0.out.cell 1
  have c2 := HF0.out.cell 2
  have c3 := HF0.out.cell 3
  go_wp2_with fail
  refine (HAh.out _ HB0.out).mono ?_
  rintro e W1 ⟨ga, R, rfl, hr, hb1⟩
  rw [HL.out]
  rw [HL.out] at hr
  have HN1 : Hid (LNow w w.heap.size ga bl n #[.string nm, .int .i64 ps, .int .i64 (n : Int), .slice bA bl bc] R (aheadF blocks bl) (.slice none 0 0) (.slice none 0 0) [] [] (fun _ _ => false) (fun _ _ => false) W1) := Lib.hid
    ⟨HB0.out.trans (hb1.mono HB0.out.size), Nat.le_refl _, HF0.out.below hb1 HF0.out.lt, hr.more HB0.out.size, SetsOwn.nil _ _ _ _, SetsOwn.nil _ _ _ _, fun k hk => by cases hk⟩
  clear hr hb1 c0 c1 c2 c3 HF0 HB0 HAh
  have c2 := HN1.out.fn.cell 2
  have c3 := HN1.out.fn.cell 3
  go_wp2_with fail
  go_loopg [2, 17] bl (fun gk v i wr => ∃ (j : Nat) (gs : List (Nat × Nat)), j + gk = bl ∧ i = .int .i64 j ∧ gs.length = j ∧ Hid (LNow w w.heap.size ga bl n #[.string nm, .int .i64 ps, .int .i64 (n : Int), .slice bA bl bc] R (aheadF blocks bl) (.slice none 0 0) v [] gs (fun _ _ => false) (fun _ _ => false) wr))
  case atStart => exact ⟨0, [], by omega, rfl, rfl, HN1⟩
  case round =>
    obtain ⟨j, gs, hj, rfl, hgl, HN⟩ := hrel
    clear c2 c3 HN1
    have c2 := HN.out.fn.cell 2
    have c3 := HN.out.fn.cell 3
    subst hgl
    obtain ⟨A, c, rfl⟩ := HN.out.outs.form
    rcases gk with _ | mk
    · have e : gs.length = bl := by omega
      have hjt : ¬ ((gs.length : Nat) : Int) < (bl : Int) := by omega
      have HN2 : Hid (LNow w w.heap.size ga bl n #[.string nm, .int .i64 ps, .int .i64 (n : Int), .slice bA bl bc] R (aheadF blocks bl) (.slice A bl c) (.slice none 0 0) gs [] (fun _ _ => false) (fun _ _ => false) wr) := Lib.hid (by
        have h := HN.out.swap
        rw [e] at h
        exact h)
      have HGr : Hid (Grows blocks n (fun _ _ => false)) := Lib.hid (Grows.none _ _)
      have HE : Hid (gs.length = bl) := Lib.hid e
      clear HN hj c2 c3 hmk
      go_wp2_with fail
      clear hjt e
      refine wp_loop_fills w.heap.size [3, 5, 6, 7, 11, 26, 27, 28, 29, 30, 31, 32, 33, 34, 35, 36, 37, 38, 39, 40, 41, 42, 43, 44, 45, 46, 47, 48, 49, 50, 51, 52, 53, 54, 55, 56, 57, 58, 59, 60, 61, 67, 68, 69, 70, 71, 72, 73, 74, 75, 76, 77, 78, 79, 80, 81, 82, 83, 84, 85, 86, 87, 88, 89, 90, 91, 92, 93, 94] (fun m u wr => ∃ (ov : Value) (gi go : List (Nat × Nat)) (I G : Nat → Int → Bool), u 3 = ov ∧ gi.length = bl ∧ Hid (LNow w w.heap.size ga bl n #[.string nm, .int .i64 ps, .int .i64 (n : Int), .slice bA bl bc] R (aheadF blocks bl) (.slice A bl c) ov gi go I G wr) ∧ Hid (Grows blocks n I) ∧
        ((u 5 = .bool true ∧ bl * n + 1 ≤ m + cntU bl n I) ∨ (u 5 = .bool false ∧ Hid (go.length = bl ∧ I = inU blocks ∧ ∀ i, i < bl → G i = outsU blocks I i)))) (bl * n + 1) (by simp only [fill, List.set_cons_succ, List.set_cons_zero, List.getD_cons_succ, List.getD_cons_zero]) (Marks.nil _ _) ⟨_, gs, [], _, _, rfl, HE.out, HN2, HGr, .inl ⟨rfl, by omega⟩⟩ ?_
      intro m u ds wx hM hrel J K hJ hK
      simp only [fill, List.set_cons_succ, List.set_cons_zero]
      obtain ⟨ov, gi, go, I, G, h3, hgi, HNx, HGx, hst⟩ := hrel
      clear HN2 HGr HE
      rcases hst with ⟨h5, hms⟩ | ⟨h5, HD⟩
      · rw [h5, h3]
        clear h5 h3
        have c3 := HNx.out.fn.cell 3
        have hcl := cntU_le bl n I
        obtain ⟨m, rfl⟩ : ∃ m', m = m' + 1 := ⟨m - 1, by omega⟩
        have hM := Lib.hid hM
        go_wp2_with fail
        obtain ⟨c0, hc0⟩ : ∃ c0, cntU bl n I = c0 := ⟨_, rfl⟩
        rw [hc0] at hms
        refine wp_loop_fills w.heap.size [3, 5, 6, 7, 11, 30, 31, 32, 33, 34, 35, 36, 37, 38, 39, 40, 41, 42, 43, 44, 45, 46, 47, 48, 49, 50, 51, 52, 53, 54, 55, 56, 57, 58, 59, 60, 61, 67, 68, 69, 70, 71, 72, 73, 74, 75, 76, 77, 78, 79, 80, 81, 82, 83, 84, 85, 86, 87, 88, 89, 90, 91, 92, 93, 94] (fun m u wr => ∃ (j : Nat) (ov : Value) (gi go : List (Nat × Nat)) (I G : Nat → Int → Bool), j + m = bl ∧ u 30 = .int .i64 (j : Int) ∧ u 3 = ov ∧ go.length = j ∧ gi.length = bl ∧ Hid (LNow w w.heap.size ga bl n #[.string nm, .int .i64 ps, .int .i64 (n : Int), .slice bA bl bc] R (aheadF blocks bl) (.slice A bl c) ov gi go I G wr) ∧ Hid (Grows blocks n I) ∧
          ((u 5 = .bool false ∧ c0 ≤ cntU bl n I ∧ Hid ((∀ i, i < j → ∀ r, stepU blocks I i r = true → I i r = true) ∧ ∀ i, i < j → G i = outsU blocks I i)) ∨ (u 5 = .bool true ∧ c0 < cntU bl n I))) bl (by simp only [fill, List.set_cons_succ, List.set_cons_zero, List.getD_cons_succ, List.getD_cons_zero]) hM.out
          ⟨0, _, gi, [], I, G, by omega, rfl, rfl, rfl, hgi, Lib.hid (HNx.out.none G), HGx, .inl ⟨rfl, by omega, Lib.hid ⟨fun i h => absurd h (Nat.not_lt_zero i), fun i h => absurd h (Nat.not_lt_zero i)⟩⟩⟩ ?_
        clear hM c3 hcl hgi
        intro m3 u3 ds wr hM hrel J3 K3 hJ3 hK3
        simp only [fill, List.set_cons_succ, List.set_cons_zero]
        obtain ⟨j, ov, gi, go, I', G', hj, h30, h3, hgo, hgi, HNr, HGr, hst⟩ := hrel
        rw [h30, h3]
        clear h30 h3 HNx HGx hc0
        have hM := Lib.hid hM
        rcases m3 with _ | mk
        · have hjt : ¬ (j : Int) < (bl : Int) := by omega
          rcases hst with ⟨h5, hcc, HD⟩ | ⟨h5, hcc⟩
          · rw [h5]
            have HE : Hid (go.length = bl ∧ I' = inU blocks ∧ ∀ i, i < bl → G' i = outsU blocks I' i) := Lib.hid (by
              obtain rfl : j = bl := by omega
              refine ⟨hgo, HGr.out.done (fun i hi => HD.out.1 i (by rw [HL.out] at hi; exact hi)), HD.out.2⟩)
            clear h5
            go_wp2_with fail
            refine Handed.intro m (by omega) ?_
            exact hJ m _ _ _ (by simp only [fill, List.set_cons_succ, List.set_cons_zero, List.getD_cons_succ, List.getD_cons_zero]) hM.out ⟨ov, gi, go, I', G', rfl, hgi, HNr, HGr, .inr ⟨rfl, HE⟩⟩
          · rw [h5]
            clear h5
            go_wp2_with fail
            refine Handed.intro m (by omega) ?_
            exact hJ m _ _ _ (by simp only [fill, List.set_cons_succ, List.set_cons_zero, List.getD_cons_succ, List.getD_cons_zero]) hM.out ⟨ov, gi, go, I', G', rfl, hgi, HNr, HGr, .inl ⟨rfl, by omega⟩⟩
        · have hjt : (j : Int) < (bl : Int) := by omega
          have hj0 : (0 : Int) ≤ (j : Int) := Int.natCast_nonneg j
          have hjl : j < bl := by omega
          obtain ⟨bb, bo, b, pA, pc, lA, lc, tA, tc, rfl, hbb, hbj, p0, p1, p2, p3, p4, p5, _, hli, _⟩ := BlksAt.one HBl.out hjl
          have hbm := List.mem_of_getElem? hbj
          have hp0 : b.phis.length = 0 := by rw [HPh.out b hbm]; rfl
          rw [hp0] at p0
          obtain ⟨A2, c2, rfl⟩ := HNr.out.outs.form
          rw [hgo] at HNr ⊢
          have hbbr : bb < wr.heap.size := Nat.lt_of_lt_of_le hbb HNr.out.below.size
          have q0 := HNr.out.fn.cell 0
          have q1 := HNr.out.fn.cell 1
          have q2 := HNr.out.fn.cell 2
          have q3 := HNr.out.fn.cell 3
          have Hbj := Lib.hid hbj
          have Hp := Lib.hid (And.intro p0 (And.intro p1 (And.intro p2 (And.intro p3 (And.intro p4 p5)))))
          have Hli := Lib.hid hli
          have HTb : Hid (∀ t ∈ b.to, 0 ≤ t ∧ t < (bl : Int)) := Lib.hid (fun t ht => by have := (HTo.out b hbm).2 t ht; rw [HL.out] at this; omega)
          have HIb := Lib.hid (HIns.out b hbm)
          have HOb := Lib.hid (HOn.out b hbm)
          clear hbj hbm hp0 p0 p1 p2 p3 p4 p5 hli
          go_wp2_with fail
          refine (Behind_any nm ps n (some ⟨bb, bo, none⟩) bl bc blocks j b w.heap.size w.heap.size ga R (aheadF blocks bl) A bl c gi I' wr hn HNr.out.below.size (HBl.out.move (Nat.le_refl _) (kept_of HNr.out.below (Nat.le_refl _))) Hbj.out HPh.out HTb.out HNr.out.rows HNr.out.ins rfl hbl).mono ?_
          rintro e w1 ⟨gS, rfl, hgS, hS, hb1⟩
          have HN1 := Lib.hid (HNr.out.next hb1)
          have HS1 := Lib.hid hS
          have hz1 : w.heap.size ≤ w1.heap.size := HN1.out.below.size
          have hgSw : w.heap.size ≤ gS := Nat.le_trans HNr.out.below.size hgS
          have hgol : go.length ≤ 40 := by omega
          have HB1 : Hid (Below wr.heap.size wr w1) := Lib.hid hb1
          clear hS hb1 q0 q1 q2 q3
          go_wp2_with (at_builtin; refine app_one rfl _ _ 105 129 rfl (.slice none 0 0) 1 24 Tryz.underlying105 infoSet rfl (by decide) (by decide) w.heap.size _ _ _ (by rfl) HN1.out.outs.own _ [.slice (some ⟨gS, 0, none⟩) n n] (by rfl) rfl (fun x hx => by simp at hx; subst hx; rfl) rfl (by omega) hz1 ?_; intro v4 w4 HA4; obtain ⟨g4, cap4, hv4, hg4, hgl4⟩ := World.ownsRow.form HA4.out.own (by omega); subst hv4; have cg4 : w4.cell? ⟨g4, j, none⟩ = some (.slice (some ⟨gS, 0, none⟩) n n) := row_cell HA4.out.own (by simp [← hgo]))
          have HN4 : Hid (LNow w w.heap.size ga bl n #[.string nm, .int .i64 ps, .int .i64 (n : Int), .slice (some ⟨bb, bo, none⟩) bl bc] R (aheadF blocks bl) (.slice A bl c) (.slice (some ⟨g4, 0, none⟩) (j + 1) cap4) gi (go ++ [(gS, n)]) I' (fun i => if i = j then outS b.to I' else G' i) w4) := Lib.hid (by
            have h := HN1.out.app (g := (gS, n)) (H := w1.heap.size + 1) (G' := fun i => if i = j then outS b.to I' else G' i) hgSw (by rw [hgo, if_pos rfl]; exact HS1.out) (fun i hi => by rw [if_neg (by omega)]) (Nat.le_succ _) HA4.out
            rw [hgo] at h
            exact h)
          have HS4 : Hid (SetIn w4 gS n (outS b.to I')) := Lib.hid (by obtain ⟨tl, h⟩ := HS1.out; exact ⟨tl, HA4.out.blk HN1.out.outs.own h (by decide)⟩)
          have HM4 := Lib.hid ((hM.out.below HB1.out).app HN1.out.outs.own HA4.out)
          clear HA4 HN1 HS1 hM HB1 hg4 hgl4
          refine (Clone_any gS n n (outS b.to I') w4 HS4.out hn).mono ?_
          rintro e w5 ⟨gC, cC, rfl, hgC, hC, hb5⟩
          have HN6 := Lib.hid ((HN4.out.next hb5).next ((Below.refl _ _).alloc (Nat.le_refl _) (.cells #[.slice (some ⟨gC, 0, none⟩) n cC] 129)))
          have HM6 := Lib.hid ((HM4.out.below hb5).below ((Below.refl _ _).alloc (Nat.le_refl _) (.cells #[.slice (some ⟨gC, 0, none⟩) n cC] 129)))
          have HX6 := Lib.hid (Blk.new w5 129 #[.slice (some ⟨gC, 0, none⟩) n cC])
          obtain ⟨tlC, hC⟩ := hC
          have HC6 := Lib.hid (hC.alloc (.cells #[.slice (some ⟨gC, 0, none⟩) n cC] 129))
          have hgCw : w.heap.size ≤ gC := Nat.le_trans HN4.out.below.size hgC
          have hCz : gC < w5.heap.size := hC.lt
          have HBp : Hid (Below w4.heap.size w4 (w5.alloc (.cells #[.slice (some ⟨gC, 0, none⟩) n cC] 129))) := Lib.hid (hb5.alloc hb5.size _)
          clear hC hb5 HM4 HS4
          go_upto_region 14 with fail
          generalize w5.alloc (.cells #[.slice (some ⟨gC, 0, none⟩) n cC] 129) = W6 at *
          generalize hzC : w5.heap.size = zC at *
          have hzCw : zC < W6.heap.size := HX6.out.lt
          clear hzC cg4
          have q3 := HN6.out.fn.cell 3
          have p3 := (bcell HN6.out.below hbb).trans Hp.out.2.2.2.1
          have p4 := (bcell HN6.out.below hbb).trans Hp.out.2.2.2.2.1
          have x0 := HX6.out.cell 0
          have hbb6 : bb < W6.heap.size := Nat.lt_of_lt_of_le hbb HN6.out.below.size
          go_still_tail 8, (by kernel_rfl)
          change wpList _ _ _ _ _ W6.drew
          have HN7 := Lib.hid (HN6.out.next (show Below W6.heap.size W6 W6.drew from ⟨rfl, rfl, rfl, Nat.le_refl _, fun _ _ => rfl⟩))
          have HM7 : Hid (Marks w.heap.size ds W6.drew) := Lib.hid (HM6.out.below (show Below W6.heap.size W6 W6.drew from ⟨rfl, rfl, rfl, Nat.le_refl _, fun _ _ => rfl⟩))
          have HX7 : Hid (Blk W6.drew zC 129 #[.slice (some ⟨gC, 0, none⟩) n cC]) := Lib.hid HX6.out
          have HC7 : Hid (Blk W6.drew gC 4 (boolsT tlC (setOf n (outS b.to I')))) := Lib.hid HC6.out
          have hz7 : W6.drew.heap.size = W6.heap.size := rfl
          have HBp7 : Hid (Below w4.heap.size w4 W6.drew) := Lib.hid (HBp.out.trans ⟨rfl, rfl, rfl, Nat.le_refl _, fun _ _ => rfl⟩)
          clear HN6 HM6 HX6 HC6 HBp x0 p3 p4 q3
          generalize W6.drew = W7 at *
          go_wp2_with fail
          refine (take_any b.on gC n cC tlC (outS b.to I') W7 HC7.out HOb.out).mono ?_
          rintro e w8 ⟨rfl, hb8, ho8⟩
          rw [endU_out] at ho8
          have hgC7 : gC ≠ zC := by omega
          have HBp8 : Hid (Below w4.heap.size w4 w8) := Lib.hid (HBp7.out.trans (hb8.below HBp7.out.size hgC))
          have HN8 := Lib.hid (HN4.out.next HBp8.out)
          have HX8 := Lib.hid (hb8.blk HX7.out HX7.out.lt hgC7.symm)
          have HM8 : Hid (Marks w.heap.size ds w8) := Lib.hid (hb8.marks HM7.out (Nat.le_refl _) (fun l e => by have h := HC7.out; unfold Blk at h; rw [e] at h; cases h))
          have HC8 := Lib.hid ho8
          have hbb8 : bb < w8.heap.size := Nat.lt_of_lt_of_le hbb HN8.out.below.size
          clear HN7 HM7 HX7 HC7 hb8 ho8 hz7 HBp7
          have q3 := HN8.out.fn.cell 3
          have p1 := (bcell HN8.out.below hbb).trans Hp.out.2.1
          obtain ⟨ll, hll⟩ : ∃ ll, b.list.length = ll := ⟨_, rfl⟩
          rw [hll] at p1
          have hli := Hli.out
          rw [hll] at hli
          have HLI := Lib.hid hli
          clear hli hll
          go_wp2_with fail
          refine (Backward_any lA ll lc w8).mono ?_
          rintro e w9 ⟨rfl, rfl⟩
          have HN9 := Lib.hid (HN8.out.next ((Below.refl _ _).alloc (Nat.le_refl _) (.cells #[.slice lA ll lc] 74)))
          have HX9 := Lib.hid (HX8.out.alloc (.cells #[.slice lA ll lc] 74))
          have HC9 := Lib.hid (HC8.out.alloc (.cells #[.slice lA ll lc] 74))
          have HM9 := Lib.hid (HM8.out.below ((Below.refl _ _).alloc (Nat.le_refl _) (.cells #[.slice lA ll lc] 74)))
          have HV9 : Hid (Blk (w8.alloc (.cells #[.slice lA ll lc] 74)) w8.heap.size 74 #[.slice lA ll lc]) := Lib.hid (Blk.new _ _ _)
          have HBp9 := Lib.hid (HBp8.out.alloc HBp8.out.size (.cells #[.slice lA ll lc] 74))
          have hgv : gC ≠ w8.heap.size := by have := HC8.out.lt; omega
          have HL9 : Hid (InssAt (w8.alloc (.cells #[.slice lA ll lc] 74)) w.heap.size (.slice lA ll lc) b.list) := Lib.hid (HLI.out.move (Nat.le_refl _) (kept_of HN9.out.below (Nat.le_refl _)))
          have hgC4 : w4.heap.size ≤ gC := hgC
          clear HN8 HX8 HC8 HM8 HBp8 q3 p1
          generalize w8.alloc (.cells #[.slice lA ll lc] 74) = W9 at *
          generalize w8.heap.size = zv at *
          go_wp2_with fail
          refine wp_range_boxed2 (p0 := 62) (p := 63) (q := 9) 69 gC (gf := 71) (lb := #[.pointer (some ⟨zv, 0, none⟩)]) rfl (fun a W => MuLone.run_callFunc_enter Tryz.func71 (by kernel_rfl) rfl a W)
            (enc0 := fun q : BackEl W9 w.heap.size b.list => .int .i64 (q.1.1 : Int)) (enc := fun q => .agg q.cells) (cells := fun q => q.cells)
            (back_stops 2 (by omega) zv gC w.heap.size b.list lA ll lc W9 hgv.symm hgCw HN9.out.below.size HV9.out HL9.out) HC9.out.lt
            (BNow W9 w.heap.size gC n cC tlC (endU b I') zC b.list)
            (fun s A B row hs hg hr => ⟨blk_grown hs.1 hg (fun r e => (hr r e).2), blk_grown hs.2.1 hg (fun r e => (hr r e).2), hs.2.2.grown hg hs.2.2.size (fun r e => .inl (hr r e).1)⟩)
            ⟨HC9.out, HX9.out, BelowBut.refl _ _ _⟩ ?assign (fun pre W o _ hi => ⟨hi.1.alloc o, hi.2.1.alloc o, hi.2.2.alloc hi.2.2.size o⟩) ?body ?done
          case assign =>
            intro lp v W K hK
            obtain ⟨⟨qi, ⟨op, dst, ⟨ar, an⟩, ⟨br, bn⟩, fn, args⟩, av⟩, hv1, hv2⟩ := v
            simp only at hv2
            obtain ⟨aA, ac, rfl, _, _⟩ := SlAt.form hv2
            simp only [List.set_cons_succ, List.set_cons_zero, BackEl.cells, insC2] at hK ⊢
            gi_wp2_with fail
            exact hK
          case body =>
            rintro lp pre v Bx W h1 h2 ⟨hi, hs, hb⟩ hv hlen
            have Hok := Lib.hid (HIb.out _ v.mem)
            have Hins : Hid (v.ins = v.1.2.1) := Lib.hid rfl
            obtain ⟨⟨qi, ⟨op, dst, ⟨ar, an⟩, ⟨br, bn⟩, fn, args⟩, av⟩, hv1, hv2⟩ := v
            simp only at hv2 Hins
            obtain ⟨aA, ac, rfl, _, _⟩ := SlAt.form hv2
            simp only [List.set_cons_succ, List.set_cons_zero, BackEl.cells, insC2] at hv ⊢
            have v0 := hv.cell 0
            have v1 := hv.cell 1
            have v2 := hv.cell 2
            have v3 := hv.cell 3
            have v4 := hv.cell 4
            have v5 := hv.cell 5
            have v6 := hv.cell 6
            have v7 := hv.cell 7
            have k0 := hs.cell 0
            have HOp : Hid (OpdsAt W w.heap.size (.slice aA args.length ac) args) := Lib.hid (hv2.move (Nat.le_refl _) (hb.kept HN9.out.below.size hgCw))
            have HI := Lib.hid hi
            have HB := Lib.hid hb
            have HS := Lib.hid hs
            have Hok2 : Hid (InsOk fps (n : Int) ⟨op, dst, ⟨ar, an⟩, ⟨br, bn⟩, fn, args⟩) := Lib.hid Hok.out
            obtain ⟨al, hal⟩ : ∃ al, args.length = al := ⟨_, rfl⟩
            have Hal := Lib.hid hal
            rw [hal] at v7
            have hpre : Hid (List.map BackEl.ins (pre ++ [⟨(qi, ⟨op, dst, ⟨ar, an⟩, ⟨br, bn⟩, fn, args⟩, .slice aA args.length ac), hv1, hv2⟩]) = List.map BackEl.ins pre ++ [⟨op, dst, ⟨ar, an⟩, ⟨br, bn⟩, fn, args⟩]) := Lib.hid (by rw [List.map_append]; rfl)
            generalize (pre ++ [⟨(qi, ⟨op, dst, ⟨ar, an⟩, ⟨br, bn⟩, fn, args⟩, .slice aA args.length ac), hv1, hv2⟩] : List (BackEl W9 w.heap.size b.list)) = pre2 at *
            rw [hal] at HOp
            clear hi hb hlen hs hv Hins Hok hal
            clear hv2
            gi_wp2_with fail
            refine ⟨trivial, (CallsIn.inRound lp (callsIn_wide.2 (SetAhead_any (regs := (n : Int)) op dst ar br an bn fn aA al ac args gC n cC w.heap.size tlC _ W rfl HI.out Hok2.out HOp.out hgCw))).mono ?_⟩
            rintro e W' ⟨rfl, hbj, hoj⟩
            have HF : Hid (BelowBut gC W.heap.size W W' ∧ BNow W9 w.heap.size gC n cC tlC (endU b I') zC b.list pre2 W') := Lib.hid (by
              refine ⟨hbj, ?_, hbj.blk HS.out HS.out.lt hgC7.symm, HB.out.trans (but_less hbj HB.out.size)⟩
              rw [hpre.out, backS_snoc]
              exact hoj)
            clear hbj hoj v0 v1 v2 v3 v4 v5 v6 v7 k0 HI HB HS HOp
            gi_wp2_with fail
            exact HF.out
          case done =>
            rintro D xs W hD hxs ⟨hi, hs, hb⟩ hK
            have HMn : Hid (Marks w.heap.size ({ target := .collected D, args := #[] } :: ds) W) := Lib.hid (HM9.out.push HN9.out.below.size hD hK (fun D' _ hD' => (hb.block D' (Array.getElem?_eq_some_iff.1 hD').1 (fun e => by have h := HC9.out; unfold Blk at h; rw [← e, hD'] at h; cases h)).trans hD'))
            have HSW : Hid (SetIn W gC n (stepU blocks I' j)) := Lib.hid ⟨tlC, by
              have e : stepU blocks I' j = upTo b.list (endU b I') := by funext r; exact stepU_at Hbj.out r
              rw [hxs, backS_all, ← e] at hi
              exact hi⟩
            have HBpW : Hid (Below w4.heap.size w4 W) := Lib.hid (HBp9.out.trans (hb.below HBp9.out.size hgC4))
            have HNW := Lib.hid (HN4.out.next HBpW.out)
            have HXW := Lib.hid hs
            have hbbW : bb < W.heap.size := Nat.lt_of_lt_of_le hbb HNW.out.below.size
            have q3 := HNW.out.fn.cell 3
            have p0 := (bcell HNW.out.below hbb).trans Hp.out.1
            have hzW : zC < W.heap.size := HXW.out.lt
            clear hi hs hb hK hxs HN9 HX9 HC9 HM9 HV9 HBp9 HL9 HBpW HN4
            go_wp2_with fail
            go_loopg [74] 0 (fun gk i wx => i = .int .i64 0 ∧ wx = W)
            case atStart => exact ⟨rfl, rfl⟩
            case round =>
              obtain ⟨rfl, rfl⟩ := hrel
              clear q3 p0
              go_upto_region 23 with fail
              obtain ⟨g0, gI, rfl, _, s0, _, hsI⟩ := HNW.out.ins.cell hjl
              obtain ⟨gI1, gI2⟩ := gI
              simp only [setV] at s0 hsI
              have x0 := HXW.out.cell 0
              go_still_tail 5, (by kernel_rfl)
              change wpList _ _ _ _ _ wr.drew
              have hbd : Below wr.heap.size wr wr.drew := ⟨rfl, rfl, rfl, Nat.le_refl _, fun _ _ => rfl⟩
              have HN10 := Lib.hid (HNW.out.next hbd)
              have HM10 := Lib.hid (HMn.out.below hbd)
              have HX10 := Lib.hid (HXW.out.below hbd HXW.out.lt)
              have HS10 := Lib.hid (HSW.out.below hbd HSW.out.lt)
              have HI10 := Lib.hid (hsI.below hbd hsI.lt)
              clear HNW HMn HXW HSW hsI hbd x0 s0 hbbW hzW
              generalize wr.drew = W10 at *
              go_wp2_with fail
              refine (EqualS_any gC n cC gI1 gI2 (stepU blocks I' j) (I' j) W10 HS10.out HI10.out hn).mono ?_
              rintro e W11 ⟨rfl, hb11⟩
              have HN11 := Lib.hid (HN10.out.next hb11)
              have HM11 := Lib.hid (HM10.out.below hb11)
              have HX11 := Lib.hid (HX10.out.below hb11 HX10.out.lt)
              have HS11 := Lib.hid (HS10.out.below hb11 HS10.out.lt)
              clear HN10 HM10 HX10 HS10 HI10 hb11
              by_cases he : setOf n (stepU blocks I' j) = setOf n (I' j)
              · rw [decide_eq_true he]
                have He := Lib.hid he
                clear he
                go_wp2_with fail
                refine Handed.intro mk (by omega) ?_
                refine hJ3 mk _ _ _ (by simp only [fill, List.set_cons_succ, List.set_cons_zero, List.getD_cons_succ, List.getD_cons_zero]) HM11.out ⟨j + 1, _, gi, go ++ [(gS, n)], I', _, by omega, by simp only [List.getD_cons_succ, List.getD_cons_zero]; go_num, rfl, by simp [hgo], hgi, HN11, HGr, ?_⟩
                rcases hst with ⟨h5, hcc, HD⟩ | ⟨h5, hcc⟩
                · refine .inl ⟨h5, hcc, Lib.hid ⟨fun i hi r hr => ?_, fun i hi => ?_⟩⟩
                  · rcases Nat.lt_or_ge i j with h | h
                    · exact HD.out.1 i h r hr
                    · obtain rfl : i = j := by omega
                      exact step_done HGr.out HRg.out He.out r hr
                  · rcases Nat.lt_or_ge i j with h | h
                    · show (if i = j then outS b.to I' else G' i) = _
                      rw [if_neg (by omega)]
                      exact HD.out.2 i h
                    · obtain rfl : i = j := by omega
                      show (if i = i then outS b.to I' else G' i) = _
                      rw [if_pos rfl, outsU_at Hbj.out]
                · exact .inr ⟨h5, hcc⟩
              · rw [decide_eq_false he]
                have hcn := cntU_put HGr.out hjl he
                have x0 := HX11.out.cell 0
                obtain ⟨cs0, hb0⟩ := HN11.out.ins.blk
                have hfz := hb0.frozen j
                obtain ⟨_, _, eA, _, s1, _, _⟩ := HN11.out.ins.cell hjl
                cases eA
                simp only [setV] at s1
                have hg0w : g0 < W11.heap.size := hb0.lt
                have HNP : Hid (LNow w w.heap.size ga bl n #[.string nm, .int .i64 ps, .int .i64 (n : Int), .slice (some ⟨bb, bo, none⟩) bl bc] R (aheadF blocks bl) (.slice (some ⟨g0, 0, none⟩) bl c) (.slice (some ⟨g4, 0, none⟩) (j + 1) cap4) (gi.set j (gC, cC)) (go ++ [(gS, n)]) (putU blocks I' j) (fun i => if i = j then outS b.to I' else G' i) (W11.setCell ⟨g0, j, none⟩ (setV n (gC, cC)))) := Lib.hid (HN11.out.put (by omega) hgCw (by
                  have e : putU blocks I' j j = stepU blocks I' j := by funext r; unfold putU; rw [if_pos rfl]
                  rw [e]
                  exact HS11.out) (fun i hi => by funext r; unfold putU; rw [if_neg hi]))
                have HMP : Hid (Marks w.heap.size ({ target := .collected D, args := #[] } :: ds) (W11.setCell ⟨g0, j, none⟩ (setV n (gC, cC)))) := Lib.hid (HM11.out.set _ _)
                have HGP := Lib.hid (HGr.out.put HRg.out j)
                simp only [setV] at HNP HMP
                clear hb0 he HN11 HM11 HX11 HS11
                have hc5 : c0 < cntU bl n (putU blocks I' j) := by
                  rcases hst with ⟨_, hcc, _⟩ | ⟨_, hcc⟩
                  · omega
                  · omega
                clear hcn hst
                go_wp2_with fail
                refine Handed.intro mk (by omega) ?_
                exact hJ3 mk _ _ _ (by simp only [fill, List.set_cons_succ, List.set_cons_zero, List.getD_cons_succ, List.getD_cons_zero]) HMP.out ⟨j + 1, _, gi.set j (gC, cC), go ++ [(gS, n)], putU blocks I' j, _, by omega, by simp only [List.getD_cons_succ, List.getD_cons_zero]; go_num, rfl, by simp [hgo], by simp [hgi], HNP, HGP, .inr ⟨rfl, hc5⟩⟩
      · rw [h5, h3]
        have c3 := HNx.out.fn.cell 3
        go_wp2_with fail
        refine end_two_m hM rfl ?_
        intro w' hs hb
        obtain ⟨hd1, hd2, hd3⟩ := HD.out
        subst hd2
        exact ⟨_, _, gi, go, rfl, HNx.out.ins.stands hs, by rw [HL.out]; exact hgi, (HNx.out.outs.congr fun i hi => hd3 i (by omega)).stands hs, by rw [HL.out]; exact hd1, HNx.out.below.trans hb⟩
    · have hjt : ((gs.length : Nat) : Int) < (bl : Int) := by omega
      have hj0 : (0 : Int) ≤ ((gs.length : Nat) : Int) := Int.natCast_nonneg _
      have HNa : Hid (LNow w w.heap.size ga bl n #[.string nm, .int .i64 ps, .int .i64 (n : Int), .slice bA bl bc] R (aheadF blocks bl) (.slice none 0 0) (.slice A gs.length c) [] gs (fun _ _ => false) (fun _ _ => false) (wr.alloc (.cells (madeCells #[.bool false] n) 4))) := Lib.hid (HN.out.next ((Below.refl _ _).alloc (Nat.le_refl _) _))
      have HSa : Hid (SetIn (wr.alloc (.cells (madeCells #[.bool false] n) 4)) wr.heap.size n (fun _ => false)) := Lib.hid ⟨[], by
        have h := Blk.new wr 4 (madeCells #[.bool false] n)
        rw [setOf_none, ← made_bools]
        exact h⟩
      have hza : w.heap.size ≤ (wr.alloc (.cells (madeCells #[.bool false] n) 4)).heap.size := HNa.out.below.size
      have hzw : w.heap.size ≤ wr.heap.size := HN.out.below.size
      have HWz : Hid ((wr.alloc (.cells (madeCells #[.bool false] n) 4)).heap.size = wr.heap.size + 1) := Lib.hid (by simp)
      go_wp2_with (at_builtin; refine app_one rfl _ _ 105 129 rfl (.slice none 0 0) 1 24 Tryz.underlying105 infoSet rfl (by decide) (by decide) w.heap.size _ _ _ (by rfl) HNa.out.outs.own _ [.slice (some ⟨wr.heap.size, 0, none⟩) n n] (by rfl) rfl (fun x hx => by simp at hx; subst hx; rfl) HWz.out (by omega) hza ?_; intro v4 w4 HA4)
      have HN3 : Hid (LNow w w.heap.size ga bl n #[.string nm, .int .i64 ps, .int .i64 (n : Int), .slice bA bl bc] R (aheadF blocks bl) (.slice none 0 0) v4 [] (gs ++ [(wr.heap.size, n)]) (fun _ _ => false) (fun _ _ => false) w4) := Lib.hid (HNa.out.app (g := (wr.heap.size, n)) hzw HSa.out (fun _ _ => rfl) (by simp) HA4.out)
      go_roundg mk
      case measure => omega
      case rel => exact ⟨gs.length + 1, gs ++ [(wr.heap.size, n)], by omega, by go_num, by simp, HN3⟩
end Go.Proofs.YtiknhfbkphoceaaGreatDoor
