/-
  Several texts in one (LvF LvG): what each proves stands at its theorems.
  Conditions: as the theorems say.
-/
import Derived.Test.YtiknhfbkphoceaaGreatDoorLvE
namespace Go.Proofs.YtiknhfbkphoceaaGreatDoor
open Go.RowKit

set_option maxRecDepth 100000 in
set_option maxHeartbeats 1000000 in
theorem IdxInt_any (v : Value) (xs : List Int) (x : Int) (w : World) (hv : IntsAt w w.heap.size v xs) :
    Calls Tryz.prog 36 #[v, .int .i64 x] w fun e w' => (∃ i, e = .returned (.int .i64 i)) ∧ w = w' := by
  obtain ⟨A, c, rfl, h1, h2, h3⟩ := hv
  obtain ⟨l, hl⟩ : ∃ l, xs.length = l := ⟨_, rfl⟩
  rw [hl] at h1 h3 ⊢
  have H3 := Lib.hid h3
  have Hl := Lib.hid hl
  clear h3 hl
  go_enter Tryz.func36, Tryz.ntmps36
  go_upto_region 2 with fail
  go_loopg [8] l (fun gk i wr => ∃ j : Nat, j + gk = l ∧ i = .int .i64 j ∧ wr = w)
  case atStart => exact ⟨0, by omega, rfl, rfl⟩
  case round =>
    obtain ⟨j, hj, rfl, rfl⟩ := hrel
    rcases gk with _ | mk
    · have hlt : ¬ (j : Int) < (l : Int) := by omega
      go_wp2_with fail
      go_ret
      exact ⟨⟨_, rfl⟩, rfl⟩
    · have hlt : (j : Int) < (l : Int) := by omega
      have hj0 : (0 : Int) ≤ (j : Int) := Int.natCast_nonneg j
      obtain ⟨b, off, rfl, hb, hc⟩ := H3.out (by omega)
      obtain ⟨y, hy⟩ : ∃ y, xs[j]? = some y := ⟨xs[j]'(by rw [Hl.out]; omega), List.getElem?_eq_getElem _⟩
      have hc := hc j y hy
      clear hy
      by_cases he : x = y
      · subst he
        go_wp2_with fail
        go_ret
        exact ⟨⟨_, rfl⟩, rfl⟩
      · go_wp2_with fail
        go_roundg mk
        case measure => omega
        case rel => exact ⟨j + 1, by omega, by go_num, rfl⟩
/-- What is live behind a block. -/
def outS (ts : List Int) (I : Nat → Int → Bool) (r : Int) : Bool := ts.any fun t => I t.toNat r
/-- Two sets, the first so far as some registers go. -/
def mixS (q : Nat) (S T : Int → Bool) (r : Int) : Bool := if r < (q : Int) then S r || T r else S r
theorem mixS_zero {n : Nat} (S T : Int → Bool) : setOf n (mixS 0 S T) = setOf n S := setOf_congr fun q _ => by
  unfold mixS
  rw [if_neg (by omega)]
theorem mixS_all {n : Nat} (S T : Int → Bool) : setOf n (mixS n S T) = setOf n (fun r => S r || T r) := setOf_congr fun q hq => by
  unfold mixS
  rw [if_pos (by omega)]
theorem mixS_put {n q : Nat} (S T : Int → Bool) (b : Bool) (hb : b = (S (q : Int) || T (q : Int))) : (setOf n (mixS q S T)).set q b = setOf n (mixS (q + 1) S T) := setOf_put fun z hz => by
  unfold mixS
  by_cases e : z = q
  · subst e
    rw [if_pos rfl, if_pos (by omega), hb]
  · rw [if_neg e]
    by_cases h : (z : Int) < (q : Int)
    · rw [if_pos h, if_pos (by omega)]
    · rw [if_neg h, if_neg (by omega)]
theorem outS_take {ts : List Int} {I : Nat → Int → Bool} {j : Nat} {t : Int} (h : ts[j]? = some t) : outS (ts.take (j + 1)) I = fun r => outS (ts.take j) I r || I t.toNat r := by
  funext r
  have hlt := (List.getElem?_eq_some_iff.1 h).1
  unfold outS
  rw [List.take_succ_eq_append_getElem hlt, (List.getElem?_eq_some_iff.1 h).2, List.any_append]
  simp
set_option maxRecDepth 100000 in
set_option maxHeartbeats 4000000 in
theorem Behind_any (nm : ByteArray) (ps : Int) (n : Nat) (bA : Option Addr) (bl bc : Nat) (blocks : List BlkU) (k : Nat) (b : BlkU) (B base ga : Nat) (R : Nat → Value) (F : Nat → List Int) (iA : Option Addr) (il ic : Nat) (gs : List (Nat × Nat)) (I : Nat → Int → Bool) (w : World)
    (hn : n ≤ 100) (hB : B ≤ w.heap.size) (hb : BlksAt w B (.slice bA bl bc) blocks) (hk : blocks[k]? = some b) (hph : ∀ b ∈ blocks, b.phis = []) (hto : ∀ t ∈ b.to, 0 ≤ t ∧ t < (bl : Int)) (hr : RowsG w base ga bl R F) (hi : SetsOwn w base (.slice iA il ic) gs n I) (hil : il = bl) (hbl : bl ≤ 40) :
    Calls Tryz.prog 75 #[.agg #[.string nm, .int .i64 ps, .int .i64 (n : Int), .slice bA bl bc], .slice (some ⟨ga, 0, none⟩) bl bl, .slice iA il ic, .int .i64 (k : Int)] w fun e w' => ∃ g, e = .returned (.slice (some ⟨g, 0, none⟩) n n) ∧ w.heap.size ≤ g ∧ SetIn w' g n (outS b.to I) ∧ Below w.heap.size w w' := by
  subst hil
  have hlen := SlAt.len hb
  have hkl : k < il := by rw [← hlen]; exact (List.getElem?_eq_some_iff.1 hk).1
  have HBlk := Lib.hid hb
  have HR := Lib.hid hr
  have HI := Lib.hid hi
  have HTo := Lib.hid hto
  have HPh := Lib.hid hph
  obtain ⟨bb, bo, b', pA, pc, lA, lc, tA, tc, rfl, hbb, hbk, p0, p1, p2, p3, p4, p5, _, _, ht⟩ := BlksAt.one hb hkl
  obtain rfl : b = b' := by rw [hk] at hbk; exact Option.some.inj hbk
  have hp0 : b.phis.length = 0 := by rw [hph b (List.mem_of_getElem? hk)]; rfl
  rw [hp0] at p0
  obtain ⟨phis, list, kind, ⟨onr, onn⟩, ts⟩ := b
  simp only at p0 p1 p2 p3 p4 p5 ht HTo
  obtain ⟨ll, hll⟩ : ∃ ll, list.length = ll := ⟨_, rfl⟩
  obtain ⟨tl, htl⟩ : ∃ tl, ts.length = tl := ⟨_, rfl⟩
  rw [hll] at p1
  rw [htl] at p5 ht
  have Htl := Lib.hid htl
  have Ht := Lib.hid ht
  obtain ⟨htc, ht63⟩ : tl ≤ tc ∧ tc ≤ 9223372036854775807 := by
    obtain ⟨A', c', e, h1, h2, _⟩ := ht
    cases e
    omega
  have hk0 : (0 : Int) ≤ (k : Int) := Int.natCast_nonneg k
  have hk1 : (k : Int) < (il : Int) := by omega
  have hmk := fun W : World => run_make_row' (P := Tryz.prog) 129 4 (.bool false) 1 Tryz.underlying129 infoBool rfl .i64 .i64 n (by omega) (by omega) W
  have HB2 : Hid (Below w.heap.size w (((w.alloc (.cells #[.string nm, .int .i64 ps, .int .i64 (n : Int), .slice (some ⟨bb, bo, none⟩) il bc] 43)).alloc (.cells (madeCells #[.bool false] n) 4)).alloc (.cells #[.slice pA 0 pc, .slice lA ll lc, .int .i64 kind, .bool onr, .int .i64 onn, .slice tA tl tc] 78))) := Lib.hid ((((Below.refl _ _).alloc (Nat.le_refl _) _).alloc (by simp) _).alloc (by simp; omega) _)
  have HF2 : Hid (Blk (((w.alloc (.cells #[.string nm, .int .i64 ps, .int .i64 (n : Int), .slice (some ⟨bb, bo, none⟩) il bc] 43)).alloc (.cells (madeCells #[.bool false] n) 4)).alloc (.cells #[.slice pA 0 pc, .slice lA ll lc, .int .i64 kind, .bool onr, .int .i64 onn, .slice tA tl tc] 78)) w.heap.size 43 #[.string nm, .int .i64 ps, .int .i64 (n : Int), .slice (some ⟨bb, bo, none⟩) il bc]) := Lib.hid (((Blk.new w _ _).alloc _).alloc _)
  have HG2 : Hid (Blk (((w.alloc (.cells #[.string nm, .int .i64 ps, .int .i64 (n : Int), .slice (some ⟨bb, bo, none⟩) il bc] 43)).alloc (.cells (madeCells #[.bool false] n) 4)).alloc (.cells #[.slice pA 0 pc, .slice lA ll lc, .int .i64 kind, .bool onr, .int .i64 onn, .slice tA tl tc] 78)) (w.heap.size + 1) 4 (boolsT [] (setOf n (outS (ts.take 0) I)))) := Lib.hid (by
    have h := Blk.new (w.alloc (.cells #[.string nm, .int .i64 ps, .int .i64 (n : Int), .slice (some ⟨bb, bo, none⟩) il bc] 43)) 4 (madeCells #[.bool false] n)
    rw [World.size_alloc] at h
    have h2 := h.alloc (.cells #[.slice pA 0 pc, .slice lA ll lc, .int .i64 kind, .bool onr, .int .i64 onn, .slice tA tl tc] 78)
    have e : (outS (ts.take 0) I) = (fun _ => false) := by funext r; simp [outS]
    rw [e, setOf_none, ← made_bools]
    exact h2)
  have HX2 : Hid (Blk (((w.alloc (.cells #[.string nm, .int .i64 ps, .int .i64 (n : Int), .slice (some ⟨bb, bo, none⟩) il bc] 43)).alloc (.cells (madeCells #[.bool false] n) 4)).alloc (.cells #[.slice pA 0 pc, .slice lA ll lc, .int .i64 kind, .bool onr, .int .i64 onn, .slice tA tl tc] 78)) (w.heap.size + 1 + 1) 78 #[.slice pA 0 pc, .slice lA ll lc, .int .i64 kind, .bool onr, .int .i64 onn, .slice tA tl tc]) := Lib.hid (by
    have h := Blk.new ((w.alloc (.cells #[.string nm, .int .i64 ps, .int .i64 (n : Int), .slice (some ⟨bb, bo, none⟩) il bc] 43)).alloc (.cells (madeCells #[.bool false] n) 4)) 78 #[.slice pA 0 pc, .slice lA ll lc, .int .i64 kind, .bool onr, .int .i64 onn, .slice tA tl tc]
    rw [World.size_alloc, World.size_alloc] at h
    exact h)
  have hbbw : bb < w.heap.size := by omega
  clear hb hr hi hto hph hk hbk hp0 hll htl ht
  go_enter Tryz.func75, Tryz.ntmps75
  go_upto_region 3 with fail
  clear hmk
  generalize (((w.alloc (.cells #[.string nm, .int .i64 ps, .int .i64 (n : Int), .slice (some ⟨bb, bo, none⟩) il bc] 43)).alloc (.cells (madeCells #[.bool false] n) 4)).alloc (.cells #[.slice pA 0 pc, .slice lA ll lc, .int .i64 kind, .bool onr, .int .i64 onn, .slice tA tl tc] 78)) = V2 at *
  generalize hg1 : w.heap.size + 1 = g1 at *
  generalize hg2 : g1 + 1 = g2 at *
  clear p0 p1 p2 p3 p4 p5
  have x5 := HX2.out.cell 5
  have hlt1 := HG2.out.lt
  have hlt2 := HX2.out.lt
  have ne12 : g1 ≠ g2 := by omega
  have nef1 : w.heap.size ≠ g1 := by omega
  have hwg1 : w.heap.size ≤ g1 := by omega
  have hbg1 : bb ≠ g1 := by omega
  clear hg1 hg2
  go_wp2_with fail
  go_loopg [31] tl (fun gk i wr => ∃ j : Nat, j + gk = tl ∧ i = .int .i64 j ∧ Hid (Blk wr g1 4 (boolsT [] (setOf n (outS (ts.take j) I)))) ∧ Hid (BelowBut g1 V2.heap.size V2 wr))
  case atStart => exact ⟨0, by omega, rfl, HG2, Lib.hid (BelowBut.refl _ _ _)⟩
  case round =>
    obtain ⟨j, hj, rfl, HG, HBB⟩ := hrel
    clear HG2 x5
    rcases gk with _ | mk
    · have hjt : ¬ (j : Int) < (tl : Int) := by omega
      have HE : Hid (SetIn wr g1 n (outS ts I)) := Lib.hid ⟨[], by
        have h := HG.out
        rw [List.take_of_length_le (by rw [Htl.out]; omega)] at h
        exact h⟩
      have HBE : Hid (Below w.heap.size w wr) := Lib.hid (HB2.out.trans (HBB.out.below HB2.out.size hwg1))
      go_wp2_with fail
      go_ret
      exact ⟨g1, rfl, hwg1, HE.out, HBE.out⟩
    · have hjt : (j : Int) < (tl : Int) := by omega
      have hj0 : (0 : Int) ≤ (j : Int) := Int.natCast_nonneg j
      obtain ⟨t, htj⟩ : ∃ t, ts[j]? = some t := ⟨ts[j]'(by rw [Htl.out]; omega), List.getElem?_eq_getElem _⟩
      obtain ⟨hn0, hn1⟩ := HTo.out t (List.mem_of_getElem? htj)
      obtain ⟨m, rfl⟩ : ∃ m : Nat, t = (m : Int) := ⟨t.toNat, by omega⟩
      have hml : m < il := by omega
      obtain ⟨A', c', eA, _, _, h3⟩ := Ht.out
      obtain ⟨tb, toff, hA, htb, htc'⟩ := h3 (by rw [Htl.out]; omega)
      obtain rfl : A' = tA := ((Value.slice.inj eA).1).symm
      subst hA
      have HBW : Hid (Below w.heap.size w wr) := Lib.hid (HB2.out.trans (HBB.out.below HB2.out.size hwg1))
      have d0 := (bcell HBW.out (Nat.lt_of_lt_of_le htb hB)).trans (htc' j _ htj)
      have HO : Hid (outS (ts.take (j + 1)) I = fun r => outS (ts.take j) I r || I m r) := Lib.hid (by rw [outS_take htj, Int.toNat_natCast])
      have c3 := (HBB.out.blk HF2.out (by omega) nef1).cell 3
      obtain ⟨b2, bo2, xm, pA2, pc2, lA2, lc2, tA2, tc2, eb, hbb2, hbm, q0, q1, q2, q3, q4, q5, _⟩ := BlksAt.one HBlk.out hml
      cases eb
      have q0 := (bcell HBW.out (Nat.lt_of_lt_of_le hbb2 hB)).trans q0
      have q1 := (bcell HBW.out (Nat.lt_of_lt_of_le hbb2 hB)).trans q1
      have q2 := (bcell HBW.out (Nat.lt_of_lt_of_le hbb2 hB)).trans q2
      have q3 := (bcell HBW.out (Nat.lt_of_lt_of_le hbb2 hB)).trans q3
      have q4 := (bcell HBW.out (Nat.lt_of_lt_of_le hbb2 hB)).trans q4
      have q5 := (bcell HBW.out (Nat.lt_of_lt_of_le hbb2 hB)).trans q5
      have hx0 : xm.phis.length = 0 := by rw [HPh.out xm (List.mem_of_getElem? hbm)]; rfl
      rw [hx0] at q0
      obtain ⟨_, lm, km, ⟨orm, onm⟩, tm⟩ := xm
      simp only at q0 q1 q2 q3 q4 q5
      obtain ⟨llm, hllm⟩ : ∃ l, lm.length = l := ⟨_, rfl⟩
      obtain ⟨tlm, htlm⟩ : ∃ l, tm.length = l := ⟨_, rfl⟩
      rw [hllm] at q1
      rw [htlm] at q5
      have x5 := (HBB.out.blk HX2.out hlt2 ne12.symm).cell 5
      clear eA h3 htc' htj hbm hx0 hllm htlm
      obtain ⟨g0, gm, rfl, hgm, s0, _, hsm⟩ := HI.out.cell (show m < il from hml)
      obtain ⟨gm1, gm2⟩ := gm
      simp only [setV] at s0 hsm
      have hg0w : g0 < w.heap.size := block_lt_of_cell s0
      have hgmw : gm1 < w.heap.size := hsm.lt
      have s0w := s0
      have s0 := (bcell HBW.out hg0w).trans s0
      have HSM := Lib.hid hsm
      have r0w := HR.out.cell hml
      have HRm := Lib.hid (HR.out.own m hml)
      have hgaw : ga < w.heap.size := HR.out.blk.lt
      have HT1 : Hid (Blk (wr.alloc (.cells #[.slice pA2 0 pc2, .slice lA2 llm lc2, .int .i64 km, .bool orm, .int .i64 onm, .slice tA2 tlm tc2] 78)) wr.heap.size 78 #[.slice pA2 0 pc2, .slice lA2 llm lc2, .int .i64 km, .bool orm, .int .i64 onm, .slice tA2 tlm tc2]) := Lib.hid (Blk.new _ _ _)
      have HG1 := Lib.hid (HG.out.alloc (.cells #[.slice pA2 0 pc2, .slice lA2 llm lc2, .int .i64 km, .bool orm, .int .i64 onm, .slice tA2 tlm tc2] 78))
      have HBB1 := Lib.hid (HBB.out.alloc (HBB.out.size) (.cells #[.slice pA2 0 pc2, .slice lA2 llm lc2, .int .i64 km, .bool orm, .int .i64 onm, .slice tA2 tlm tc2] 78))
      have hv2 : V2.heap.size ≤ wr.heap.size := HBB.out.size
      clear hgm hsm
      go_upto_region 7 with fail
      generalize wr.alloc (.cells #[.slice pA2 0 pc2, .slice lA2 llm lc2, .int .i64 km, .bool orm, .int .i64 onm, .slice tA2 tlm tc2] 78) = W1 at *
      generalize wr.heap.size = z at *
      have HBW1 : Hid (Below w.heap.size w W1) := Lib.hid (HB2.out.trans (HBB1.out.below HB2.out.size hwg1))
      have s0 := (bcell HBW1.out hg0w).trans s0w
      clear q0 q1 q2 q3 q4 q5 d0 c3 HG HBB s0w
      go_wp2_with fail
      go_loopg [45] n (fun gk2 i wx => ∃ q : Nat, q + gk2 = n ∧ i = .int .i64 q ∧ Hid (Blk wx g1 4 (boolsT [] (setOf n (mixS q (outS (ts.take j) I) (I m))))) ∧ Hid (BelowBut g1 W1.heap.size W1 wx))
      case atStart => exact ⟨0, by omega, rfl, Lib.hid (by rw [mixS_zero]; exact HG1.out), Lib.hid (BelowBut.refl _ _ _)⟩
      case round =>
        obtain ⟨q, hq, rfl, HQ, HBq⟩ := hrel
        rcases gk with _ | nk
        · have hqn : ¬ (q : Int) < (n : Int) := by omega
          have HE : Hid (Blk wr g1 4 (boolsT [] (setOf n (outS (ts.take (j + 1)) I)))) := Lib.hid (by
            have h := HQ.out
            obtain rfl : q = n := by omega
            rw [mixS_all, ← HO.out] at h
            exact h)
          have hz1 : V2.heap.size ≤ W1.heap.size := HBB1.out.size
          have HBX : Hid (BelowBut g1 V2.heap.size V2 wr) := Lib.hid (HBB1.out.trans (but_less HBq.out hz1))
          have HBWr : Hid (Below w.heap.size w wr) := Lib.hid (HB2.out.trans (HBX.out.below HB2.out.size hwg1))
          have r0 := (bcell HBWr.out hgaw).trans r0w
          have HIr := Lib.hid (HRm.out.below HBWr.out rfl)
          have t0 := ((HBq.out.blk HT1.out HT1.out.lt (show z ≠ g1 by omega)).cell 0)
          go_wp2_with (go_at_call 36; refine (IdxInt_any _ _ _ _ HIr.out.ints).mono ?_; rintro e w' ⟨⟨ix, rfl⟩, rfl⟩)
          go_loopg [70] 0 (fun gk i wx => i = .int .i64 0 ∧ wx = wr)
          case atStart => exact ⟨rfl, rfl⟩
          case round =>
            obtain ⟨rfl, rfl⟩ := hrel
            go_wp2_with fail
            go_roundg mk
            case measure => omega
            case rel => exact ⟨j + 1, by omega, by go_num, HE, HBX⟩
        · have hqn : (q : Int) < (n : Int) := by omega
          have hq0 : (0 : Int) ≤ (q : Int) := Int.natCast_nonneg q
          have hqn' : q < n := by omega
          have HBWr : Hid (Below w.heap.size w wr) := Lib.hid (HBW1.out.trans (HBq.out.below HBW1.out.size hwg1))
          have hS1 : g1 < W1.heap.size := HG1.out.lt
          have i0 := (bcell HBWr.out hgmw).trans (HSM.out.cell hqn')
          have m0 : wr.cell? ⟨g1, q, none⟩ = some (.bool (outS (ts.take j) I (q : Int))) := by
            have h := (HQ.out.cell q).trans (boolsT_at (setOf_at hqn'))
            rw [h]
            unfold mixS
            rw [if_neg (by omega)]
          have hfz := HQ.out.frozen q
          have HN : ∀ b0, b0 = (outS (ts.take j) I (q : Int) || I m (q : Int)) → Hid (Blk (wr.setCell ⟨g1, q, none⟩ (.bool b0)) g1 4 (boolsT [] (setOf n (mixS (q + 1) (outS (ts.take j) I) (I m))))) := fun b0 hb0 => Lib.hid (by
            have h := HQ.out.set_ q (.bool b0)
            rw [boolsT_set _ _ _ _ (by rw [setOf_len]; exact hqn'), mixS_put _ _ b0 hb0] at h
            exact h)
          have HBn : ∀ b0, Hid (BelowBut g1 W1.heap.size W1 (wr.setCell ⟨g1, q, none⟩ (.bool b0))) := fun b0 => Lib.hid (HBq.out.trans (BelowBut.set _ _ _ _ _))
          generalize I m (q : Int) = x1 at *
          generalize outS (ts.take j) I (q : Int) = x2 at *
          clear HQ HBq
          cases x2 with
          | true =>
            have HN := HN true (by simp)
            have HBn := HBn true
            go_wp2_with fail
            go_roundg nk
            case measure => omega
            case rel => exact ⟨q + 1, by omega, by go_num, HN, HBn⟩
          | false =>
            have HN := HN x1 (by simp)
            have HBn := HBn x1
            go_wp2_with fail
            go_roundg nk
            case measure => omega
            case rel => exact ⟨q + 1, by omega, by go_num, HN, HBn⟩
end Go.Proofs.YtiknhfbkphoceaaGreatDoor
namespace Go.Proofs.YtiknhfbkphoceaaGreatDoor
open Go.RowKit

/-- A loop: the relation speaks of the values of some slots and of the world; the marks may grow. -/
theorem wp_loop_fills {P : Program} {Q : Exit → Act → World → Prop} {c : Code} {l : List Value} {ds : List Deferred} {w : World} (B : Nat) (S : List Nat) (R : Nat → (Nat → Value) → World → Prop) (n₀ : Nat)
    (hl : fill S (fun s => l.getD s undef) l = l) (hM : Marks B ds w) (h0 : R n₀ (fun s => l.getD s undef) w)
    (round : ∀ (n : Nat) (u : Nat → Value) (ds : List Deferred) (w : World), Marks B ds w → R n u w → ∀ (J : Nat → Act → World → Prop) (K : Act → World → Prop),
      (∀ (k : Nat) (l' : List Value) (ds' : List Deferred) (w' : World), fill S (fun s => l'.getD s undef) l = l' → Marks B ds' w' → R k (fun s => l'.getD s undef) w' → J k ⟨l'.toArray, ds'⟩ w') → (∀ a' w', Handed J n a' w' → K a' w') → c.wp P (Exit.then K Q) ⟨(fill S u l).toArray, ds⟩ w) :
    (Code.loop c).wp P Q ⟨l.toArray, ds⟩ w := by
  refine wp_loop_ghost_k (fun n a w => ∃ u ds, Marks B ds w ∧ R n u w ∧ a = ⟨(fill S u l).toArray, ds⟩) n₀ ⟨_, ds, hM, h0, by rw [hl]⟩ ?_
  rintro n a w ⟨u, ds, hm, hr, rfl⟩ J K hJ hK
  exact round n u ds w hm hr J K (fun k l' ds' w' h1 h2 h3 => hJ k _ _ ⟨_, ds', h2, h3, by rw [h1]⟩) hK
/-- A loop over an iterator, of two variables, of which the second lies in a box of its own each round (slots p0, p: what comes; slot q: the box); in no round. -/
theorem wp_range_boxed2 {P : Program} {α : Type} {g : Operand} {p0 p q : Nat} {assign body : Code} {Q : Exit → Act → World → Prop} {l : List Value} {ds : List Deferred} {w : World} (t : TypeId) (g0 : Nat) {gf : Nat} {lb : Array Value}
    (hg : (⟨l.toArray, ds⟩ : Act).eval g = .func (.func gf) #[] lb) (eg : ∀ args w, (callFunc gf args).run P w = .ok (.enter gf args) w)
    {enc0 enc : α → Value} {cells : α → Array Value} {Sx Sp : List α → Prop} {N : Nat} (hseq : SeqStopsK Fence.wide 2 P gf lb (fun x => #[enc0 x, enc x]) (CellsBut g0) Sx Sp N w) (hg0 : g0 < w.heap.size)
    (I : List α → World → Prop) (hI : OwnFrom w.heap.size I) (h0 : I [] w)
    (hassign : ∀ (lp : Nat) (x : α) (W : World) (K : Act → World → Prop), K ⟨(((l.set p0 (enc0 x)).set p (enc x)).set q (.pointer (some ⟨W.heap.size, 0, none⟩))).toArray, []⟩ (W.alloc (.cells (cells x) t)) →
      assign.wpIn (Fence.wide.inRound lp) 1 P (Exit.then K (fun _ _ _ => False)) ⟨((l.set p0 (enc0 x)).set p (enc x)).toArray, []⟩ W)
    (hIa : ∀ pre W o, w.heap.size ≤ W.heap.size → I pre W → I pre (W.alloc o))
    (hbody : ∀ (lp : Nat) (pre : List α) (x : α) (Bx : Nat) (W : World), w.heap.size ≤ Bx → w.heap.size ≤ W.heap.size → I pre W → Blk W Bx t (cells x) → pre.length < N →
      body.wpIn (Fence.wide.inRound lp) 1 P (fun e _ W' => e = .normal ∧ BelowBut g0 W.heap.size W W' ∧ I (pre ++ [x]) W') ⟨(((l.set p0 (enc0 x)).set p (enc x)).set q (.pointer (some ⟨Bx, 0, none⟩))).toArray, []⟩ W)
    (hdone : ∀ (D : Nat) (xs : List α) (W : World), w.heap.size ≤ D → Sx xs → I xs W → W.heap[D]? = some (.deferred (some [])) → Q .normal ⟨l.toArray, { target := .collected D, args := #[] } :: ds⟩ W) :
    (Code.rangeFunc g #[p0, p] assign body).wp P Q ⟨l.toArray, ds⟩ w := by
  have hz : ∀ x, ((#[p0, p] : Array Nat).zip #[enc0 x, enc x]).foldl (fun (t : Array Value) (pv : Nat × Value) => t.setIfInBounds pv.1 pv.2) l.toArray = ((l.set p0 (enc0 x)).set p (enc x)).toArray := fun x => by simp
  refine (wpIn_wide (n := 3)).1 (wpIn_rangeFunc_ownH rfl (by omega) hg trivial eg hseq (fun h k => h.trans k) (fun W l o o' h1 h2 h3 h4 => cellsK_b (w := w) W l o o' h1 h2 h3 h4) (Below.refl _ _) (fun _ => rfl)
    (fun pre W => I pre W ∧ w.heap.size ≤ W.heap.size) (fun _ _ _ => False) (fun s A B row hs hg' hr => ⟨hI s A B row hs.1 hg' hr, Nat.le_trans hs.2 hg'.size⟩) (fun _ _ _ _ _ hs _ _ => hs) ⟨h0, Nat.le_refl _⟩
    (fun x a' W => ∃ Bx, w.heap.size ≤ Bx ∧ Blk W Bx t (cells x) ∧ a' = ⟨(((l.set p0 (enc0 x)).set p (enc x)).set q (.pointer (some ⟨Bx, 0, none⟩))).toArray, []⟩) ?_ ?_ ?_ ?_ ?_)
  · rintro x a' _ A B row ⟨Bx, h1, h2, h3⟩ hg' hr
    refine ⟨Bx, h1, ?_, h3⟩
    refine (hg'.block Bx h2.lt (fun e => ?_)).trans h2
    obtain ⟨_, o, ho, hc⟩ := hr Bx e.symm
    rw [show A.heap[Bx]? = _ from h2] at ho
    cases ho
    cases hc
  · intro lp pre x W K hi hK
    have hz' := hz x
    simp only at hz' ⊢
    rw [hz']
    refine hassign lp x W K ?_
    exact hK _ _ ((KeepsOthers.alloc _ _).from _) (Below.cellsBut ((Below.refl _ _).alloc (Nat.le_refl _) _)) ⟨hIa _ _ _ hi.2 hi.1, by simp; exact Nat.le_succ_of_le hi.2⟩ ⟨W.heap.size, hi.2, Blk.new _ _ _, rfl⟩
  · rintro lp pre x a' W hl _ hi ⟨Bx, h1, h2, rfl⟩ hlen
    refine wpIn_mono (hbody lp pre x Bx W h1 hi.2 hi.1 h2 hlen) ?_
    rintro e a2 W' ⟨rfl, hb, hi'⟩
    exact ⟨keepsFrom_of_but hb (Nat.le_refl _) hg0, hb.cells (Nat.le_refl _), hi', Nat.le_trans hi.2 hb.size⟩
  · rintro D xs W hD hS hi hK
    exact hdone D xs W hD hS hi.1 hK
  · rintro D c pre W hD _ hx
    exact hx.elim

/-- What is live behind each block. -/
def outsU (bs : List BlkU) (I : Nat → Int → Bool) (i : Nat) (r : Int) : Bool := match bs[i]? with
  | some b => outS b.to I r
  | none => false
theorem outsU_at {bs : List BlkU} {I : Nat → Int → Bool} {i : Nat} {b : BlkU} (h : bs[i]? = some b) : outsU bs I i = outS b.to I := by funext r; unfold outsU; rw [h]
theorem endU_out (b : BlkU) (I : Nat → Int → Bool) : orS (outS b.to I) (occV b.on) = endU b I := by
  funext r
  unfold orS endU outS
  rw [Bool.or_comm]
/-- Back through some instructions, that come from behind. -/
def backS (ys : List InsU) (S : Int → Bool) : Int → Bool := ys.foldl (fun S x => aheadS x S) S
theorem backS_snoc (ys : List InsU) (x : InsU) (S : Int → Bool) : backS (ys ++ [x]) S = aheadS x (backS ys S) := by unfold backS; rw [List.foldl_append]; rfl
theorem backS_all (xs : List InsU) (S : Int → Bool) : backS xs.reverse S = upTo xs S := by
  induction xs with
  | nil => rfl
  | cons x xs ih =>
    rw [List.reverse_cons, backS_snoc, ih]
    rfl
/-- What lies in the sets on the way. -/
structure Grows (bs : List BlkU) (n : Nat) (I : Nat → Int → Bool) : Prop where
  le : ∀ i r, I i r = true → inU bs i r = true
  up : ∀ i r, I i r = true → stepU bs I i r = true
  rg : ∀ i r, I i r = true → 0 ≤ r ∧ r < (n : Int)
theorem Grows.none (bs : List BlkU) (n : Nat) : Grows bs n (fun _ _ => false) := ⟨fun _ _ h => Bool.noConfusion h, fun _ _ h => Bool.noConfusion h, fun _ _ h => Bool.noConfusion h⟩
/-- The registers of a function's blocks lie in range. -/
structure Ranged (bs : List BlkU) (n : Nat) : Prop where
  list : ∀ b ∈ bs, ∀ x ∈ b.list, ∀ r, takesU x r = true → 0 ≤ r ∧ r < (n : Int)
  on : ∀ b ∈ bs, ∀ r ∈ occV b.on, 0 ≤ r ∧ r < (n : Int)
theorem upTo_range {n : Nat} {xs : List InsU} {S : Int → Bool} (hx : ∀ x ∈ xs, ∀ r, takesU x r = true → 0 ≤ r ∧ r < (n : Int)) (hS : ∀ r, S r = true → 0 ≤ r ∧ r < (n : Int)) : ∀ r, upTo xs S r = true → 0 ≤ r ∧ r < (n : Int) := by
  induction xs with
  | nil => exact hS
  | cons x xs ih =>
    intro r hr
    simp only [upTo, Bool.or_eq_true, Bool.and_eq_true] at hr
    rcases hr with h1 | ⟨h1, _⟩
    · exact hx x (by simp) r h1
    · exact ih (fun y hy => hx y (List.mem_cons_of_mem _ hy)) r h1
theorem stepU_range {bs : List BlkU} {n : Nat} {I : Nat → Int → Bool} (h : Ranged bs n) (hI : ∀ i r, I i r = true → 0 ≤ r ∧ r < (n : Int)) (i : Nat) (r : Int) (hr : stepU bs I i r = true) : 0 ≤ r ∧ r < (n : Int) := by
  unfold stepU at hr
  split at hr
  · rename_i b hb
    have hm := List.mem_of_getElem? hb
    refine upTo_range (h.list b hm) (fun s hs => ?_) r hr
    unfold endU at hs
    simp only [Bool.or_eq_true, decide_eq_true_eq, List.any_eq_true] at hs
    rcases hs with h1 | ⟨t, _, h1⟩
    · exact h.on b hm s h1
    · exact hI _ _ h1
  · cases hr
/-- One block's set by its step. -/
def putU (bs : List BlkU) (I : Nat → Int → Bool) (k : Nat) (i : Nat) (r : Int) : Bool := if i = k then stepU bs I k r else I i r
theorem putU_ge {bs : List BlkU} {n : Nat} {I : Nat → Int → Bool} (h : Grows bs n I) (k i : Nat) (r : Int) (hr : I i r = true) : putU bs I k i r = true := by
  unfold putU
  split
  · rename_i e; subst e; exact h.up _ _ hr
  · exact hr
theorem Grows.put {bs : List BlkU} {n : Nat} {I : Nat → Int → Bool} (h : Grows bs n I) (hr : Ranged bs n) (k : Nat) : Grows bs n (putU bs I k) := by
  refine ⟨fun i r hi => ?_, fun i r hi => ?_, fun i r hi => ?_⟩
  · unfold putU at hi
    split at hi
    · rename_i e; subst e
      exact inU_step _ _ (stepU_mono (fun j s hs => h.le j s hs) _ _ hi)
    · exact h.le _ _ hi
  · refine stepU_mono (I := I) (fun j s hs => putU_ge h k j s hs) i r ?_
    unfold putU at hi
    split at hi
    · rename_i e; subst e; exact hi
    · exact h.up _ _ hi
  · unfold putU at hi
    split at hi
    · exact stepU_range hr h.rg _ _ hi
    · exact h.rg _ _ hi
/-- How many registers are in, all in all. -/
def cntU (bl n : Nat) (I : Nat → Int → Bool) : Nat := ((List.range bl).flatMap fun i => (List.range n).map fun r => (i, r)).countP fun p => I p.1 ((p.2 : Nat) : Int)
theorem countP_less {α : Type} {p q : α → Bool} : ∀ {l : List α}, (∀ x ∈ l, p x = true → q x = true) → (∃ x ∈ l, p x = false ∧ q x = true) → l.countP p < l.countP q
  | [], _, ⟨_, h, _⟩ => by simp at h
  | a :: l, h, ⟨x, hx, h1, h2⟩ => by
    have hm : l.countP p ≤ l.countP q := List.countP_mono_left fun y hy => h y (List.mem_cons_of_mem _ hy)
    rw [List.countP_cons, List.countP_cons]
    rcases List.mem_cons.1 hx with rfl | hx
    · rw [if_neg (by rw [h1]; simp), if_pos h2]
      omega
    · have := countP_less (l := l) (fun y hy => h y (List.mem_cons_of_mem _ hy)) ⟨x, hx, h1, h2⟩
      cases ha : p a with
      | true =>
        rw [if_pos rfl, if_pos (h a (by simp) ha)]
        omega
      | false =>
        rw [if_neg (by simp)]
        omega
theorem cntU_le (bl n : Nat) (I : Nat → Int → Bool) : cntU bl n I ≤ bl * n := by
  unfold cntU
  refine Nat.le_trans List.countP_le_length ?_
  rw [List.length_flatMap]
  simp [List.map_const', List.sum_replicate_nat]
theorem cntU_mono {bl n : Nat} {I J : Nat → Int → Bool} (h : ∀ i r, I i r = true → J i r = true) : cntU bl n I ≤ cntU bl n J := List.countP_mono_left fun _ _ hp => h _ _ hp
theorem cntU_less {bl n : Nat} {I J : Nat → Int → Bool} (h : ∀ i r, I i r = true → J i r = true) {i r : Nat} (hi : i < bl) (hr : r < n) (h1 : I i (r : Int) = false) (h2 : J i (r : Int) = true) : cntU bl n I < cntU bl n J :=
  countP_less (fun _ _ hp => h _ _ hp) ⟨(i, r), by simp [hi, hr], h1, h2⟩
/-- A step that changes a set adds to it. -/
theorem cntU_put {bs : List BlkU} {bl n : Nat} {I : Nat → Int → Bool} (h : Grows bs n I) {k : Nat} (hk : k < bl) (hne : setOf n (stepU bs I k) ≠ setOf n (I k)) : cntU bl n I < cntU bl n (putU bs I k) := by
  have : ∃ r : Nat, r < n ∧ stepU bs I k (r : Int) ≠ I k (r : Int) := by
    refine Classical.byContradiction fun hc => hne (setOf_congr fun q hq => ?_)
    refine Classical.byContradiction fun hc2 => hc ⟨q, hq, hc2⟩
  obtain ⟨r, hr, hd⟩ := this
  refine cntU_less (putU_ge h k) hk hr ?_ ?_
  · cases hI : I k (r : Int) with
    | false => rfl
    | true => rw [h.up _ _ hI, hI] at hd; exact absurd rfl hd
  · unfold putU
    rw [if_pos rfl]
    cases hs : stepU bs I k (r : Int) with
    | true => rfl
    | false =>
      rw [hs] at hd
      cases hI : I k (r : Int) with
      | false => rw [hI] at hd; exact absurd rfl hd
      | true => have := h.up _ _ hI; rw [hs] at this; cases this
theorem step_done {bs : List BlkU} {n : Nat} {I : Nat → Int → Bool} (h : Grows bs n I) (hr : Ranged bs n) {k : Nat} (he : setOf n (stepU bs I k) = setOf n (I k)) (r : Int) (hs : stepU bs I k r = true) : I k r = true := by
  obtain ⟨h1, h2⟩ := stepU_range hr h.rg k r hs
  obtain ⟨q, rfl⟩ : ∃ q : Nat, r = (q : Int) := ⟨r.toNat, by omega⟩
  rw [← setOf_inj he q (by omega)]
  exact hs
theorem Grows.done {bs : List BlkU} {n : Nat} {I : Nat → Int → Bool} (h : Grows bs n I) (hd : ∀ i, i < bs.length → ∀ r, stepU bs I i r = true → I i r = true) : I = inU bs := by
  funext i r
  refine inU_done (fun j s hs => ?_) h.le i r
  rcases Nat.lt_or_ge j bs.length with hj | hj
  · exact hd j hj s hs
  · unfold stepU at hs
    rw [List.getElem?_eq_none (by omega)] at hs
    cases hs
/-- What stands while live.AllOf goes on. -/
structure LNow (w : World) (gf ga bl n : Nat) (fc : Array Value) (R : Nat → Value) (F : Nat → List Int) (iv ov : Value) (gi go : List (Nat × Nat)) (I G : Nat → Int → Bool) (wr : World) : Prop where
  below : Below w.heap.size w wr
  far : w.heap.size ≤ gf
  fn : Blk wr gf 43 fc
  rows : RowsG wr w.heap.size ga bl R F
  ins : SetsOwn wr w.heap.size iv gi n I
  outs : SetsOwn wr w.heap.size ov go n G
  apart : ∀ k, iv.ownBlock = some k → ov.ownBlock ≠ some k
section
variable {w wr : World} {gf ga bl n : Nat} {fc : Array Value} {R : Nat → Value} {F : Nat → List Int} {iv ov : Value} {gi go : List (Nat × Nat)} {I G : Nat → Int → Bool}
theorem SetsOwn.congr {w : World} {base : Nat} {v : Value} {gs : List (Nat × Nat)} {n : Nat} {F F' : Nat → Int → Bool} (h : SetsOwn w base v gs n F) (hF : ∀ i, i < gs.length → F i = F' i) : SetsOwn w base v gs n F' :=
  ⟨h.own, fun i g hg => by rw [← hF i (List.getElem?_eq_some_iff.1 hg).1]; exact h.set i g hg⟩
theorem LNow.next {w' : World} (h : LNow w gf ga bl n fc R F iv ov gi go I G wr) (hb : Below wr.heap.size wr w') : LNow w gf ga bl n fc R F iv ov gi go I G w' :=
  ⟨h.below.trans (hb.mono h.below.size), h.far, h.fn.below hb h.fn.lt, h.rows.below hb, h.ins.below hb, h.outs.below hb, h.apart⟩
theorem RowsG.app {w w' : World} {base ga bl : Nat} {R : Nat → Value} {F : Nat → List Int} {v v' : Value} {n0 m : Nat} {xs0 xs : List Value} {H : Nat} (h : RowsG w base ga bl R F) (ho : w.ownsRow base 129 1 v n0 xs0) (ha : Appended w base 129 1 v m xs H v' w') : RowsG w' base ga bl R F :=
  ⟨ha.blk ho h.blk (by decide), h.ge, fun q hq => ha.row (h.own q hq) (own_apart (h.own q hq) ho (by decide)), h.ap⟩
theorem SetsOwn.app {w w' : World} {base n : Nat} {v v' iv : Value} {n0 m : Nat} {xs0 xs : List Value} {H : Nat} {gi : List (Nat × Nat)} {I : Nat → Int → Bool} (h : SetsOwn w base iv gi n I) (ho : w.ownsRow base 129 1 v n0 xs0) (hap : ∀ k, iv.ownBlock = some k → v.ownBlock ≠ some k)
    (ha : Appended w base 129 1 v m xs H v' w') : SetsOwn w' base iv gi n I :=
  ⟨ha.row h.own hap, fun i g hg => ⟨(h.set i g hg).1, by obtain ⟨tl, hs⟩ := (h.set i g hg).2; exact ⟨tl, ha.blk ho hs (by decide)⟩⟩⟩
theorem app_apart {w w' : World} {base n m : Nat} {v v' iv : Value} {xs : List Value} {H : Nat} {gi : List (Nat × Nat)} {I : Nat → Int → Bool} (h : SetsOwn w base iv gi n I) (hap : ∀ k, iv.ownBlock = some k → v.ownBlock ≠ some k) (hH : w.heap.size ≤ H)
    (ha : Appended w base 129 1 v m xs H v' w') : ∀ k, iv.ownBlock = some k → v'.ownBlock ≠ some k := by
  intro k hk
  rcases ha.2.2.2 with e | e
  · rw [e]; exact hap k hk
  · rw [e]
    intro e2
    injection e2 with e2
    subst e2
    have := (World.ownsRow.lt h.own H hk).2
    omega
theorem LNow.app {w' : World} {v' : Value} {H : Nat} {g : Nat × Nat} {G' : Nat → Int → Bool} (h : LNow w gf ga bl n fc R F iv ov gi go I G wr) (hg : w.heap.size ≤ g.1) (hs : SetIn wr g.1 n (G' go.length)) (hG : ∀ i, i < go.length → G i = G' i) (hH : wr.heap.size ≤ H)
    (ha : Appended wr w.heap.size 129 1 ov (go.length + 1) (go.map (setV n) ++ [setV n g]) H v' w') : LNow w gf ga bl n fc R F iv v' gi (go ++ [g]) I G' w' :=
  ⟨h.below.trans ha.below, h.far, ha.blk h.outs.own h.fn (by decide), h.rows.app h.outs.own ha, h.ins.app h.outs.own h.apart ha, (h.outs.congr hG).snoc hg hs ha, app_apart h.ins h.apart hH ha⟩
theorem blk_ne {w : World} {g g' : Nat} {t t' : TypeId} {cs cs' : Array Value} (h : Blk w g t cs) (h' : Blk w g' t' cs') (hne : t ≠ t') : g ≠ g' := by
  intro e
  subst e
  unfold Blk at h h'
  rw [h] at h'
  injection h' with h'
  injection h' with _ h'
  exact hne h'
theorem SetsOwn.blk {w : World} {base l c g0 : Nat} {gs : List (Nat × Nat)} {n : Nat} {F : Nat → Int → Bool} (h : SetsOwn w base (.slice (some ⟨g0, 0, none⟩) l c) gs n F) : ∃ cs, Blk w g0 129 cs := by
  rcases h.own.2 with ⟨e, _⟩ | ⟨g, cap, cur, e, _, hg, _⟩
  · cases e
  · injection e with e1 e2 e3
    injection e1 with e1
    injection e1 with e1
    subst e1
    exact ⟨cur, hg⟩
theorem SetIn.far {w : World} {g g0 n : Nat} {t : TypeId} {cs : Array Value} {S : Int → Bool} (h : SetIn w g n S) (hb : Blk w g0 t cs) (ht : 4 ≠ t) (o : Nat) (u : Value) : SetIn (w.setCell ⟨g0, o, none⟩ u) g n S := by
  obtain ⟨tl, h⟩ := h
  exact ⟨tl, h.far (p := ⟨g0, o, none⟩) (blk_ne h hb ht) u⟩
theorem SetsOwn.put {w : World} {base l c g0 k : Nat} {g : Nat × Nat} {gs : List (Nat × Nat)} {n : Nat} {F F' : Nat → Int → Bool} (h : SetsOwn w base (.slice (some ⟨g0, 0, none⟩) l c) gs n F) (hk : k < gs.length) (hg : base ≤ g.1) (hs : SetIn w g.1 n (F' k)) (hF : ∀ i, i ≠ k → F i = F' i) :
    SetsOwn (w.setCell ⟨g0, k, none⟩ (setV n g)) base (.slice (some ⟨g0, 0, none⟩) l c) (gs.set k g) n F' := by
  obtain ⟨cs, hb⟩ := h.blk
  refine ⟨?_, fun i q hq => ?_⟩
  · obtain ⟨h1, h2⟩ := h.own
    have hl : l = gs.length := by
      rcases h2 with ⟨e, hn⟩ | ⟨g', cap, cur, e, _⟩
      · cases e
      · injection e
    subst hl
    have := (World.ownsRow.stored h.own k (setV n g)).1
    rw [List.length_set, List.map_set]
    exact this
  · rw [List.getElem?_set] at hq
    by_cases e : k = i
    · subst e
      rw [if_pos rfl, if_pos hk] at hq
      injection hq with hq
      subst hq
      exact ⟨hg, hs.far hb (by decide) _ _⟩
    · rw [if_neg e] at hq
      rw [← hF i (fun e' => e e'.symm)]
      exact ⟨(h.set i q hq).1, (h.set i q hq).2.far hb (by decide) _ _⟩
theorem SetsOwn.other {w : World} {base l c g0 : Nat} {v : Value} {gi gs : List (Nat × Nat)} {n : Nat} {I F : Nat → Int → Bool} (h0 : SetsOwn w base (.slice (some ⟨g0, 0, none⟩) l c) gi n I) (h : SetsOwn w base v gs n F) (hap : v.ownBlock ≠ some g0) (o : Nat) (u : Value) :
    SetsOwn (w.setCell ⟨g0, o, none⟩ u) base v gs n F := by
  obtain ⟨cs, hb⟩ := h0.blk
  refine ⟨?_, fun i q hq => ⟨(h.set i q hq).1, (h.set i q hq).2.far hb (by decide) _ _⟩⟩
  obtain ⟨h1, h2⟩ := h.own
  refine ⟨h1, ?_⟩
  rcases h2 with h2 | ⟨g, cap, cur, rfl, hg, hh, h3⟩
  · exact .inl h2
  · refine .inr ⟨g, cap, cur, rfl, hg, ?_, h3⟩
    rw [Below.heap_setCell w ⟨g0, o, none⟩ u g (fun e => hap (by rw [e]; rfl))]
    exact hh
theorem LNow.put {l c g0 k : Nat} {g : Nat × Nat} {I' : Nat → Int → Bool} (h : LNow w gf ga bl n fc R F (.slice (some ⟨g0, 0, none⟩) l c) ov gi go I G wr) (hk : k < gi.length) (hg : w.heap.size ≤ g.1) (hs : SetIn wr g.1 n (I' k)) (hI : ∀ i, i ≠ k → I i = I' i) :
    LNow w gf ga bl n fc R F (.slice (some ⟨g0, 0, none⟩) l c) ov (gi.set k g) go I' G (wr.setCell ⟨g0, k, none⟩ (setV n g)) := by
  obtain ⟨cs, hb⟩ := h.ins.blk
  have hge : w.heap.size ≤ g0 := (World.ownsRow.lt h.ins.own g0 rfl).1
  exact ⟨h.below.setCell hge _, h.far, h.fn.far (p := ⟨g0, k, none⟩) (blk_ne h.fn hb (by decide)) _, h.rows.far hb (by decide) (by decide) _, h.ins.put hk hg hs hI, SetsOwn.other h.ins h.outs (h.apart g0 rfl) _ _, h.apart⟩
end
end Go.Proofs.YtiknhfbkphoceaaGreatDoor
