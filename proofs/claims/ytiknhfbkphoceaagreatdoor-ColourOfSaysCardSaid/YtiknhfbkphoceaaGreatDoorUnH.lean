/-
  code.checker: body.
  Conditions: as the theorems say.
-/
import Derived.Test.YtiknhfbkphoceaaGreatDoorUnE
import Derived.Test.YtiknhfbkphoceaaGreatDoorUnF
import Derived.Test.YtiknhfbkphoceaaGreatDoorUnG
import Derived.Test.YtiknhfbkphoceaaGreatDoorUnJ
namespace Go.Proofs.YtiknhfbkphoceaaGreatDoor
open Go.RowKit

theorem RowsG.far {w : World} {base g n : Nat} {R : Nat → Value} {F : Nat → List Int} (h : RowsG w base g n R F) {q o : Nat} {t : TypeId} {cs : Array Value} (hb : Blk w q t cs) (h1 : 26 ≠ t) (h2 : 3 ≠ t) (u : Value) : RowsG (w.setCell ⟨q, o, none⟩ u) base g n R F := by
  refine ⟨?_, h.ge, fun i hi => row_far (h.own i hi) hb h2 u, h.ap⟩
  refine h.blk.far ?_ u
  rintro rfl
  have h3 := h.blk
  unfold Blk at hb h3
  rw [hb] at h3
  simp only [Option.some.injEq, Obj.cells.injEq] at h3
  exact h1 h3.2.1.symm
section
variable {pss : List Int} {nm : ByteArray} {ps regs nb : Int} {blocks : List BlkU}
theorem body_e (hnb : (blocks.length : Int) = nb) (h : firstE (fun _ b => endE nb regs b) blocks ≠ 0) : bodyE pss ⟨nm, ps, regs, blocks⟩ = firstE (fun _ b => endE nb regs b) blocks := by
  subst hnb
  unfold bodyE; rw [if_pos h]
theorem body_b (hnb : (blocks.length : Int) = nb) (h : firstE (fun _ b => endE nb regs b) blocks = 0) : bodyE pss ⟨nm, ps, regs, blocks⟩ = firstE (fun i b => blkE pss regs (aheadU blocks) i b) blocks := by
  subst hnb
  unfold bodyE; rw [if_neg (by simpa using h)]
end
theorem blk_p {pss : List Int} {regs : Int} {rows : List (List Int)} {i : Nat} {b : BlkU} (h : firstE (fun _ p => phiE regs rows i p) b.phis ≠ 0) : blkE pss regs rows i b = firstE (fun _ p => phiE regs rows i p) b.phis := by unfold blkE; rw [if_pos h]
theorem blk_l {pss : List Int} {regs : Int} {rows : List (List Int)} {i : Nat} {b : BlkU} (h : firstE (fun _ p => phiE regs rows i p) b.phis = 0) : blkE pss regs rows i b = firstE (fun _ x => insE pss regs x) b.list := by unfold blkE; rw [if_neg (by simpa using h)]
set_option maxRecDepth 100000 in
set_option maxHeartbeats 4000000 in
theorem body_any (gA fA bA : Option Addr) (gl gc fl fc bl bc : Nat) (nm : ByteArray) (ps regs : Int) (blocks : List BlkU) (fs : List FunU) (w : World) (hr : 0 ≤ regs ∧ regs ≤ 100) (hb : BlksAt w w.heap.size (.slice bA bl bc) blocks) (hn : blocks.length ≤ 40) (hok : ∀ b ∈ blocks, b.ok) (hW : Ways w)
    (hf : FunsAt w w.heap.size (.slice fA fl fc) fs) :
    Calls Tryz.prog 67 #[.agg #[.slice gA gl gc, .slice fA fl fc, .string nm, .int .i64 ps, .int .i64 regs, .slice bA bl bc, .slice none 0 0]] w fun e w' => e = .returned (.int .i64 (bodyE (fs.map FunU.params) ⟨nm, ps, regs, blocks⟩)) ∧ Below w.heap.size w w' := by
  have HBl := Lib.hid hb
  have hlen : blocks.length = bl := SlAt.len hb
  have HL := Lib.hid hlen
  have HOk := Lib.hid hok
  have hbl : bl ≤ 40 := by omega
  have Hr := Lib.hid hr
  have HF := Lib.hid hf
  have HWays := Lib.hid hW
  have hfl : fl ≤ 9223372036854775807 := by
    obtain ⟨A', c', e, h1, h2⟩ := SlAt.form hf
    cases e
    omega
  have HNb : Hid ((blocks.length : Int) = (bl : Int)) := Lib.hid (by omega)
  clear hb hlen hok hr hf hW hn
  have HW0 : Hid (Below w.heap.size w (w.alloc (.cells #[.slice gA gl gc, .slice fA fl fc, .string nm, .int .i64 ps, .int .i64 regs, .slice bA bl bc, .slice none 0 0] 118))) := Lib.hid ((Below.refl _ _).alloc (Nat.le_refl _) _)
  have HC0 : Hid (Blk (w.alloc (.cells #[.slice gA gl gc, .slice fA fl fc, .string nm, .int .i64 ps, .int .i64 regs, .slice bA bl bc, .slice none 0 0] 118)) w.heap.size 118 #[.slice gA gl gc, .slice fA fl fc, .string nm, .int .i64 ps, .int .i64 regs, .slice bA bl bc, .slice none 0 0]) := Lib.hid (Blk.new w _ _)
  go_enter Tryz.func67, Tryz.ntmps67
  go_wp2_with fail
  generalize w.alloc (.cells #[.slice gA gl gc, .slice fA fl fc, .string nm, .int .i64 ps, .int .i64 regs, .slice bA bl bc, .slice none 0 0] 118) = W at *
  go_loopw [18] (fun i wr => ∃ k : Nat, k ≤ bl ∧ i = .int .i64 k ∧ Hid (∀ j, j < k → badOf (fun _ b => endE (bl : Int) regs b) blocks j = 0) ∧ Hid (Below w.heap.size w wr) ∧ Hid (Blk wr w.heap.size 118 #[.slice gA gl gc, .slice fA fl fc, .string nm, .int .i64 ps, .int .i64 regs, .slice bA bl bc, .slice none 0 0])) (fun i _ => bl - (intOf i).toNat)
  case atStart => exact ⟨0, Nat.zero_le _, rfl, Lib.hid (fun j h => absurd h (Nat.not_lt_zero j)), HW0, HC0⟩
  case round =>
    obtain ⟨k, hk, rfl, HN, HB, HC⟩ := hrel
    clear HW0 HC0
    by_cases hlt : k < bl
    · skip
      obtain ⟨⟨phis, list, kind, ⟨onr, onn⟩, ts⟩, hbk⟩ : ∃ b, blocks[k]? = some b := ⟨blocks[k]'(by rw [HL.out]; exact hlt), List.getElem?_eq_getElem _⟩
      obtain ⟨bb, boff, hbA, hbb, us, ⟨pv, lv, tv, rfl, hp, hl, ht⟩, hcell⟩ := SlAt.at HBl.out hbk
      have b0 := (bcell HB.out hbb).trans (hcell 0 _ rfl)
      have b1 := (bcell HB.out hbb).trans (hcell 1 _ rfl)
      have b2 := (bcell HB.out hbb).trans (hcell 2 _ rfl)
      have b3 := (bcell HB.out hbb).trans (hcell 3 _ rfl)
      have b4 := (bcell HB.out hbb).trans (hcell 4 _ rfl)
      have b5 := (bcell HB.out hbb).trans (hcell 5 _ rfl)
      simp only [Nat.add_zero] at b0
      obtain ⟨pA, pc, rfl, hpc, hp63⟩ := SlAt.form hp
      obtain ⟨lA, lc, rfl, hlc, hl63⟩ := SlAt.form hl
      obtain ⟨tA, tc, rfl, htc, ht63, _⟩ := id ht
      simp only at hp hl ht b0 b1 b2 b3 b4 b5 hpc hlc htc
      obtain ⟨tl, htl⟩ : ∃ tl, ts.length = tl := ⟨_, rfl⟩
      obtain ⟨pl, hpl⟩ : ∃ pl, phis.length = pl := ⟨_, rfl⟩
      obtain ⟨ll, hll⟩ : ∃ ll, list.length = ll := ⟨_, rfl⟩
      rw [htl] at b5 htc ht
      rw [hpl] at b0 hpc hp
      rw [hll] at b1 hlc hl
      have Hpl := Lib.hid hpl
      have Hll := Lib.hid hll
      have Hp := Lib.hid hp
      have Hl := Lib.hid hl
      have Ht := Lib.hid ht
      have Hbk := Lib.hid hbk
      subst hbA
      have hk0 : (0 : Int) ≤ (k : Int) := Int.natCast_nonneg k
      have hk1 : (k : Int) < (bl : Int) := by omega
      clear hp hl ht hcell hbk htl hpl hll
      have c0 := HC.out.cell 0
      have c1 := HC.out.cell 1
      have c2 := HC.out.cell 2
      have c3 := HC.out.cell 3
      have c4 := HC.out.cell 4
      have c5 := HC.out.cell 5
      have c6 := HC.out.cell 6
      have hgC := HC.out.lt
      have HK1 := Lib.hid (HC.out.alloc (.cells #[.slice pA pl pc, .slice lA ll lc, .int .i64 kind, .bool onr, .int .i64 onn, .slice tA tl tc] 78))
      have HB1 := Lib.hid (HB.out.alloc HB.out.size (.cells #[.slice pA pl pc, .slice lA ll lc, .int .i64 kind, .bool onr, .int .i64 onn, .slice tA tl tc] 78))
      go_wp2_with fail
      refine (end_any gA fA _ none gl gc fl fc bl bc 0 0 nm ps regs tA tl tc ⟨phis, list, kind, ⟨onr, onn⟩, ts⟩ _ Hr.out (Ht.out.move HB1.out.size (kept_of HB1.out (Nat.le_refl _))) (HWays.out.own HB1.out) (by omega)).mono ?_
      rintro e W2 ⟨rfl, hb2⟩
      have HK2 := Lib.hid (HK1.out.below hb2 HK1.out.lt)
      have HB2 := Lib.hid (HB1.out.trans (hb2.mono HB1.out.size))
      clear hb2 c0 c1 c2 c3 c4 c5 c6 b0 b1 b2 b3 b4 b5
      by_cases he : endE (bl : Int) regs ⟨phis, list, kind, ⟨onr, onn⟩, ts⟩ = 0
      · have HN2 := Lib.hid (bad_step (f := fun _ b => endE (bl : Int) regs b) Hbk.out he HN.out)
        rw [he]
        go_wp2_with fail
        go_roundw
        case rel => exact ⟨k + 1, by omega, by go_num, HN2, HB2, HK2⟩
        case measure => simp [intOf]; omega
      · have HE : Hid (bodyE (fs.map FunU.params) ⟨nm, ps, regs, blocks⟩ = endE (bl : Int) regs ⟨phis, list, kind, ⟨onr, onn⟩, ts⟩) := Lib.hid (by
          have h1 := firstE_hit (f := fun _ b => endE (bl : Int) regs b) Hbk.out he HN.out
          rw [body_e HNb.out (by rw [h1]; exact he), h1])
        have hne : (endE (bl : Int) regs ⟨phis, list, kind, ⟨onr, onn⟩, ts⟩ != 0) = true := by simpa using he
        clear he
        generalize endE (bl : Int) regs ⟨phis, list, kind, ⟨onr, onn⟩, ts⟩ = ev at *
        go_wp2_with fail
        go_ret
        exact ⟨ret_int HE.out.symm, HB2.out⟩
    · obtain rfl : k = bl := by omega
      have HEnds : Hid (firstE (fun _ b => endE (k : Int) regs b) blocks = 0) := Lib.hid (firstE_ok (fun j hj => HN.out j (by rw [HL.out] at hj; exact hj)))
      have HEo : Hid (∀ b ∈ blocks, EndOk (k : Int) regs b) := Lib.hid (by
        intro b hm
        obtain ⟨j, hj⟩ := List.mem_iff_getElem?.1 hm
        exact end_ok (firstE_zero HEnds.out hj))
      have c0 := HC.out.cell 0
      have c1 := HC.out.cell 1
      have c2 := HC.out.cell 2
      have c3 := HC.out.cell 3
      have c4 := HC.out.cell 4
      have c5 := HC.out.cell 5
      have c6 := HC.out.cell 6
      have hgC := HC.out.lt
      go_wp2_with fail
      refine (ahead_any bA k bc nm ps regs blocks _ (HBl.out.move HB.out.size (kept_of HB.out (Nat.le_refl _))) (by rw [HL.out]; exact hbl) (fun b hb => ⟨by rw [(HEo.out b hb).size]; unfold waysU; split; omega; split <;> omega, fun n hn => by rw [HNb.out]; exact (HEo.out b hb).to n hn⟩)).mono ?_
      rintro e W2 ⟨g, R, rfl, hR, hb2⟩
      rw [HL.out]
      clear c0 c1 c2 c3 c4 c5 c6
      have hC2 := HC.out.below hb2 hgC
      have HRW : Hid (RowsAtU (W2.setCell ⟨w.heap.size, 6, none⟩ (.slice (some ⟨g, 0, none⟩) k k)) (W2.setCell ⟨w.heap.size, 6, none⟩ (.slice (some ⟨g, 0, none⟩) k k)).heap.size (.slice (some ⟨g, 0, none⟩) k k) (aheadU blocks)) := Lib.hid (by
        have := (hR.far (o := 6) hC2 (by decide) (by decide) (.slice (some ⟨g, 0, none⟩) k k)).rows (by rw [HL.out]; omega)
        rw [HL.out] at this
        unfold aheadU
        rw [HL.out]
        exact this)
      have HC3 : Hid (Blk (W2.setCell ⟨w.heap.size, 6, none⟩ (.slice (some ⟨g, 0, none⟩) k k)) w.heap.size 118 #[.slice gA gl gc, .slice fA fl fc, .string nm, .int .i64 ps, .int .i64 regs, .slice bA k bc, .slice (some ⟨g, 0, none⟩) k k]) := Lib.hid (hC2.set_ 6 _)
      have HB3 : Hid (Below w.heap.size w (W2.setCell ⟨w.heap.size, 6, none⟩ (.slice (some ⟨g, 0, none⟩) k k))) := Lib.hid ((HB.out.trans (hb2.mono HB.out.size)).setCell (by simp) _)
      have f6 := hC2.frozen 6
      have s6 := hC2.cell 6
      clear hR hC2 hb2
      go_upto_region 9 with fail
      generalize W2.setCell ⟨w.heap.size, 6, none⟩ (.slice (some ⟨g, 0, none⟩) k k) = W3 at *
      clear f6 s6 HB HC HN
      have c5 := HC3.out.cell 5
      go_wp2_with fail
      clear c5
      obtain ⟨bl, rfl⟩ : ∃ bl, bl = k := ⟨_, rfl⟩
      go_loopw [38] (fun i wr => ∃ k : Nat, k ≤ bl ∧ i = .int .i64 k ∧ Hid (∀ j, j < k → badOf (fun i b => blkE (fs.map FunU.params) regs (aheadU blocks) i b) blocks j = 0) ∧ Hid (Below W3.heap.size W3 wr)) (fun i _ => bl - (intOf i).toNat)
      case atStart => exact ⟨0, Nat.zero_le _, rfl, Lib.hid (fun j h => absurd h (Nat.not_lt_zero j)), Lib.hid (Below.refl _ _)⟩
      case round =>
        obtain ⟨k, hk, rfl, HN, HBr⟩ := hrel
        have HB : Hid (Below w.heap.size w wr) := Lib.hid (HB3.out.trans (HBr.out.mono HB3.out.size))
        by_cases hlt : k < bl
        · skip
          obtain ⟨⟨phis, list, kind, ⟨onr, onn⟩, ts⟩, hbk⟩ : ∃ b, blocks[k]? = some b := ⟨blocks[k]'(by rw [HL.out]; exact hlt), List.getElem?_eq_getElem _⟩
          obtain ⟨bb, boff, hbA, hbb, us, ⟨pv, lv, tv, rfl, hp, hl, ht⟩, hcell⟩ := SlAt.at HBl.out hbk
          have b0 := (bcell HB.out hbb).trans (hcell 0 _ rfl)
          have b1 := (bcell HB.out hbb).trans (hcell 1 _ rfl)
          have b2 := (bcell HB.out hbb).trans (hcell 2 _ rfl)
          have b3 := (bcell HB.out hbb).trans (hcell 3 _ rfl)
          have b4 := (bcell HB.out hbb).trans (hcell 4 _ rfl)
          have b5 := (bcell HB.out hbb).trans (hcell 5 _ rfl)
          simp only [Nat.add_zero] at b0
          obtain ⟨pA, pc, rfl, hpc, hp63⟩ := SlAt.form hp
          obtain ⟨lA, lc, rfl, hlc, hl63⟩ := SlAt.form hl
          obtain ⟨tA, tc, rfl, htc, ht63, _⟩ := id ht
          simp only at hp hl ht b0 b1 b2 b3 b4 b5 hpc hlc htc
          obtain ⟨tl, htl⟩ : ∃ tl, ts.length = tl := ⟨_, rfl⟩
          obtain ⟨pl, hpl⟩ : ∃ pl, phis.length = pl := ⟨_, rfl⟩
          obtain ⟨ll, hll⟩ : ∃ ll, list.length = ll := ⟨_, rfl⟩
          rw [htl] at b5 htc ht
          rw [hpl] at b0 hpc hp
          rw [hll] at b1 hlc hl
          have Hpl := Lib.hid hpl
          have Hll := Lib.hid hll
          have Hp := Lib.hid hp
          have Hl := Lib.hid hl
          have Ht := Lib.hid ht
          have Hbk := Lib.hid hbk
          subst hbA
          have hk0 : (0 : Int) ≤ (k : Int) := Int.natCast_nonneg k
          have hk1 : (k : Int) < (bl : Int) := by omega
          clear hp hl ht hcell hbk htl hpl hll
          have HK4 : Hid (Blk (wr.alloc (.cells #[.slice pA pl pc, .slice lA ll lc, .int .i64 kind, .bool onr, .int .i64 onn, .slice tA tl tc] 78)) wr.heap.size 78 #[.slice pA pl pc, .slice lA ll lc, .int .i64 kind, .bool onr, .int .i64 onn, .slice tA tl tc]) := Lib.hid (Blk.new _ _ _)
          have HB4 := Lib.hid (HBr.out.alloc HBr.out.size (.cells #[.slice pA pl pc, .slice lA ll lc, .int .i64 kind, .bool onr, .int .i64 onn, .slice tA tl tc] 78))
          go_upto_region 12 with fail
          clear b0 b1 b2 b3 b4 b5
          generalize hg7 : wr.heap.size = g7 at *
          generalize wr.alloc (.cells #[.slice pA pl pc, .slice lA ll lc, .int .i64 kind, .bool onr, .int .i64 onn, .slice tA tl tc] 78) = W4 at *
          have b0 := HK4.out.cell 0
          have b1 := HK4.out.cell 1
          clear hg7
          go_wp2_with fail
          go_loopg [46] pl (fun gk i wx => ∃ j : Nat, j + gk = pl ∧ i = .int .i64 j ∧ Hid (∀ q, q < j → badOf (fun _ p => phiE regs (aheadU blocks) k p) phis q = 0) ∧ Hid (Below W4.heap.size W4 wx))
          case atStart => exact ⟨0, by omega, rfl, Lib.hid (fun j h => absurd h (Nat.not_lt_zero j)), Lib.hid (Below.refl _ _)⟩
          case round =>
            obtain ⟨j, hj, rfl, HNj, HBx⟩ := hrel
            have HB5 : Hid (Below W3.heap.size W3 wr) := Lib.hid (HB4.out.trans (HBx.out.mono HB4.out.size))
            have HB6 : Hid (Below w.heap.size w wr) := Lib.hid (HB3.out.trans (HB5.out.mono HB3.out.size))
            have HC5 := Lib.hid (HC3.out.below HB5.out HC3.out.lt)
            have HK5 := Lib.hid (HK4.out.below HBx.out HK4.out.lt)
            rcases gk with _ | m
            · have hj2 : j = pl := by omega
              have HPh : Hid (firstE (fun _ p => phiE regs (aheadU blocks) k p) phis = 0) := Lib.hid (firstE_ok (fun q hq => HNj.out q (by rw [Hpl.out] at hq; omega)))
              clear HNj hj
              subst hj2
              have b1 := HK5.out.cell 1
              go_wp2_with fail
              obtain ⟨wo, hwo⟩ : ∃ wo : World, wo = wr := ⟨_, rfl⟩
              subst hwo
              go_loopg [61] ll (fun gk i wx => ∃ j : Nat, j + gk = ll ∧ i = .int .i64 j ∧ Hid (∀ q, q < j → badOf (fun _ x => insE (fs.map FunU.params) regs x) list q = 0) ∧ Hid (Below W4.heap.size W4 wx))
              case atStart => exact ⟨0, by omega, rfl, Lib.hid (fun j h => absurd h (Nat.not_lt_zero j)), HBx⟩
              case round =>
                clear HB5 HB6 HC5 HK5 HBx b1
                obtain ⟨i, hi, rfl, HNi, HBx⟩ := hrel
                have HB5 : Hid (Below W3.heap.size W3 wr) := Lib.hid (HB4.out.trans (HBx.out.mono HB4.out.size))
                have HB6 : Hid (Below w.heap.size w wr) := Lib.hid (HB3.out.trans (HB5.out.mono HB3.out.size))
                have HC5 := Lib.hid (HC3.out.below HB5.out HC3.out.lt)
                rcases gk with _ | m
                · have HN2 : Hid (∀ j, j < k + 1 → badOf (fun i b => blkE (fs.map FunU.params) regs (aheadU blocks) i b) blocks j = 0) := Lib.hid (bad_step (f := fun i b => blkE (fs.map FunU.params) regs (aheadU blocks) i b) Hbk.out ((blk_l (b := ⟨phis, list, kind, ⟨onr, onn⟩, ts⟩) HPh.out).trans (firstE_ok (fun q hq => HNi.out q (by have h1 : list.length = ll := Hll.out; have h2 : q < list.length := hq; omega)))) HN.out)
                  go_wp2_with fail
                  go_roundw
                  case rel => exact ⟨k + 1, by omega, by go_num, HN2, HB5⟩
                  case measure => simp [intOf]; omega
                · have hil : i < ll := by omega
                  obtain ⟨⟨op, dst, ⟨ar, an⟩, ⟨br, bn⟩, fn, args⟩, hx⟩ : ∃ x, list[i]? = some x := ⟨list[i]'(by rw [Hll.out]; exact hil), List.getElem?_eq_getElem _⟩
                  obtain ⟨ib, ioff, hiA, hib, us, ⟨av, rfl, hav⟩, hcell⟩ := SlAt.at Hl.out hx
                  have d0 := (bcell HB6.out hib).trans (hcell 0 _ rfl)
                  have d1 := (bcell HB6.out hib).trans (hcell 1 _ rfl)
                  have d2 := (bcell HB6.out hib).trans (hcell 2 _ rfl)
                  have d3 := (bcell HB6.out hib).trans (hcell 3 _ rfl)
                  have d4 := (bcell HB6.out hib).trans (hcell 4 _ rfl)
                  have d5 := (bcell HB6.out hib).trans (hcell 5 _ rfl)
                  have d6 := (bcell HB6.out hib).trans (hcell 6 _ rfl)
                  have d7 := (bcell HB6.out hib).trans (hcell 7 _ rfl)
                  simp only [Nat.add_zero] at d0
                  obtain ⟨xA, xc, rfl, hxc, hx63⟩ := SlAt.form hav
                  simp only at hav d0 d1 d2 d3 d4 d5 d6 d7 hxc
                  obtain ⟨xl, hxl⟩ : ∃ xl, args.length = xl := ⟨_, rfl⟩
                  rw [hxl] at d7 hxc hav
                  have Hav := Lib.hid hav
                  have Hx := Lib.hid hx
                  have Hdst : Hid (I64 dst) := Lib.hid ((HOk.out _ (List.mem_of_getElem? Hbk.out)).list _ (List.mem_of_getElem? hx)).dst
                  subst hiA
                  have hi0 : (0 : Int) ≤ (i : Int) := Int.natCast_nonneg i
                  have hi1 : (i : Int) < (ll : Int) := by omega
                  have HBy := Lib.hid (HBx.out.alloc HBx.out.size (.cells #[.int .i64 op, .int .i64 dst, .bool ar, .int .i64 an, .bool br, .int .i64 bn, .int .i64 fn, .slice xA xl xc] 69))
                  have HB7 := Lib.hid (HB6.out.alloc HB6.out.size (.cells #[.int .i64 op, .int .i64 dst, .bool ar, .int .i64 an, .bool br, .int .i64 bn, .int .i64 fn, .slice xA xl xc] 69))
                  have hgC := HC5.out.lt
                  have c0 := HC5.out.cell 0
                  have c1 := HC5.out.cell 1
                  have c2 := HC5.out.cell 2
                  have c3 := HC5.out.cell 3
                  have c4 := HC5.out.cell 4
                  have c5 := HC5.out.cell 5
                  have c6 := HC5.out.cell 6
                  clear hav hcell hx hxl
                  go_wp2_with fail
                  refine (ins_any gA _ _ _ gl gc fl fc bl bc bl bl nm ps regs xA xl xc op dst ar br an bn fn args fs _ Hr.out Hdst.out (HF.out.move HB7.out.size (kept_of HB7.out (Nat.le_refl _))) (Hav.out.move HB7.out.size (kept_of HB7.out (Nat.le_refl _))) hfl).mono ?_
                  rintro e W8 ⟨rfl, hb8⟩
                  have HB8 := Lib.hid (HBy.out.trans (hb8.mono HBy.out.size))
                  have HB9 := Lib.hid (HB7.out.trans (hb8.mono HB7.out.size))
                  clear hb8 c0 c1 c2 c3 c4 c5 c6 d0 d1 d2 d3 d4 d5 d6 d7
                  by_cases he : insE (fs.map FunU.params) regs ⟨op, dst, ⟨ar, an⟩, ⟨br, bn⟩, fn, args⟩ = 0
                  · have HN2 : Hid (∀ q, q < i + 1 → badOf (fun _ x => insE (fs.map FunU.params) regs x) list q = 0) := Lib.hid (bad_step Hx.out he HNi.out)
                    rw [he]
                    go_wp2_with fail
                    go_roundg m
                    case measure => omega
                    case rel => exact ⟨i + 1, by omega, by go_num, HN2, HB8⟩
                  · have HE : Hid (bodyE (fs.map FunU.params) ⟨nm, ps, regs, blocks⟩ = insE (fs.map FunU.params) regs ⟨op, dst, ⟨ar, an⟩, ⟨br, bn⟩, fn, args⟩) := Lib.hid (by
                      have h1 := firstE_hit (f := fun _ x => insE (fs.map FunU.params) regs x) Hx.out he HNi.out
                      have h2 : blkE (fs.map FunU.params) regs (aheadU blocks) k ⟨phis, list, kind, ⟨onr, onn⟩, ts⟩ = insE (fs.map FunU.params) regs ⟨op, dst, ⟨ar, an⟩, ⟨br, bn⟩, fn, args⟩ := (blk_l HPh.out).trans h1
                      rw [body_b HNb.out HEnds.out, firstE_hit Hbk.out (by rw [h2]; exact he) HN.out, h2])
                    have hne : (insE (fs.map FunU.params) regs ⟨op, dst, ⟨ar, an⟩, ⟨br, bn⟩, fn, args⟩ != 0) = true := by simpa using he
                    clear he
                    generalize insE (fs.map FunU.params) regs ⟨op, dst, ⟨ar, an⟩, ⟨br, bn⟩, fn, args⟩ = ev at *
                    go_wp2_with fail
                    go_ret
                    exact ⟨ret_int HE.out.symm, HB9.out⟩
            · have hjl : j < pl := by omega
              obtain ⟨⟨pdst, args⟩, hx⟩ : ∃ x, phis[j]? = some x := ⟨phis[j]'(by rw [Hpl.out]; exact hjl), List.getElem?_eq_getElem _⟩
              obtain ⟨ib, ioff, hiA, hib, us, ⟨av, rfl, hav⟩, hcell⟩ := SlAt.at Hp.out hx
              have d0 := (bcell HB6.out hib).trans (hcell 0 _ rfl)
              have d1 := (bcell HB6.out hib).trans (hcell 1 _ rfl)
              simp only [Nat.add_zero] at d0
              obtain ⟨xA, xc, rfl, hxc, hx63⟩ := SlAt.form hav
              simp only at hav d0 d1 hxc
              obtain ⟨xl, hxl⟩ : ∃ xl, args.length = xl := ⟨_, rfl⟩
              rw [hxl] at d1 hxc hav
              have Hav := Lib.hid hav
              have Hx := Lib.hid hx
              have Hdst : Hid (I64 pdst) := Lib.hid ((HOk.out _ (List.mem_of_getElem? Hbk.out)).phis _ (List.mem_of_getElem? hx)).dst
              subst hiA
              have hj0 : (0 : Int) ≤ (j : Int) := Int.natCast_nonneg j
              have hj1 : (j : Int) < (pl : Int) := by omega
              have HBy := Lib.hid (HBx.out.alloc HBx.out.size (.cells #[.int .i64 pdst, .slice xA xl xc] 134))
              have HB7 := Lib.hid (HB6.out.alloc HB6.out.size (.cells #[.int .i64 pdst, .slice xA xl xc] 134))
              have HB5' := Lib.hid (HB5.out.alloc HB5.out.size (.cells #[.int .i64 pdst, .slice xA xl xc] 134))
              have hgC := HC5.out.lt
              have c0 := HC5.out.cell 0
              have c1 := HC5.out.cell 1
              have c2 := HC5.out.cell 2
              have c3 := HC5.out.cell 3
              have c4 := HC5.out.cell 4
              have c5 := HC5.out.cell 5
              have c6 := HC5.out.cell 6
              clear hav hcell hx hxl
              go_wp2_with fail
              refine (phi_any gA _ _ _ gl gc fl fc bl bc bl bl nm ps regs k xA xl xc pdst args (aheadU blocks) _ Hr.out Hdst.out (HRW.out.move HB5'.out.size (kept_of HB5'.out (Nat.le_refl _))) (by unfold aheadU; rw [List.length_map, List.length_range, HL.out]; exact hlt) (Hav.out.move HB7.out.size (kept_of HB7.out (Nat.le_refl _)))).mono ?_
              rintro e W8 ⟨rfl, hb8⟩
              have HB8 := Lib.hid (HBy.out.trans (hb8.mono HBy.out.size))
              have HB9 := Lib.hid (HB7.out.trans (hb8.mono HB7.out.size))
              clear hb8 c0 c1 c2 c3 c4 c5 c6 d0 d1
              by_cases he : phiE regs (aheadU blocks) k ⟨pdst, args⟩ = 0
              · have HN2 : Hid (∀ q, q < j + 1 → badOf (fun _ p => phiE regs (aheadU blocks) k p) phis q = 0) := Lib.hid (bad_step Hx.out he HNj.out)
                rw [he]
                go_wp2_with fail
                go_roundg m
                case measure => omega
                case rel => exact ⟨j + 1, by omega, by go_num, HN2, HB8⟩
              · have HE : Hid (bodyE (fs.map FunU.params) ⟨nm, ps, regs, blocks⟩ = phiE regs (aheadU blocks) k ⟨pdst, args⟩) := Lib.hid (by
                  have h1 := firstE_hit (f := fun _ p => phiE regs (aheadU blocks) k p) Hx.out he HNj.out
                  have h2 : blkE (fs.map FunU.params) regs (aheadU blocks) k ⟨phis, list, kind, ⟨onr, onn⟩, ts⟩ = phiE regs (aheadU blocks) k ⟨pdst, args⟩ := (blk_p (by show firstE _ phis ≠ 0; rw [h1]; exact he)).trans h1
                  rw [body_b HNb.out HEnds.out, firstE_hit Hbk.out (by rw [h2]; exact he) HN.out, h2])
                have hne : (phiE regs (aheadU blocks) k ⟨pdst, args⟩ != 0) = true := by simpa using he
                clear he
                generalize phiE regs (aheadU blocks) k ⟨pdst, args⟩ = ev at *
                go_wp2_with fail
                go_ret
                exact ⟨ret_int HE.out.symm, HB9.out⟩
        · have HE : Hid (bodyE (fs.map FunU.params) ⟨nm, ps, regs, blocks⟩ = 0) := Lib.hid ((body_b HNb.out HEnds.out).trans (firstE_ok (fun q hq => HN.out q (by rw [HL.out] at hq; omega))))
          go_wp2_with fail
          go_ret
          exact ⟨ret_int HE.out.symm, HB.out⟩
end Go.Proofs.YtiknhfbkphoceaaGreatDoor
