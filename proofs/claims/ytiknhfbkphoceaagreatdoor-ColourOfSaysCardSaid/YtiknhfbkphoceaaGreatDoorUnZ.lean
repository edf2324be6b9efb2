/-
  The reference's weights.
  Conditions: the unit's numbers are Go's.
-/
import Derived.Test.YtiknhfbkphoceaaGreatDoorUnX
import Derived.Deep.QuietTactic
import Derived.BigQuiet
namespace Go.Proofs.YtiknhfbkphoceaaGreatDoor
open Go.RowKit

/-- One operation of a region that is walked once, the world being of a class. -/
theorem quiet_one {P : Program} {ops : Array Oper} {C : World → Prop} {Q : Act → Prop} {a : Act} {o : Oper} {rest : List Oper} (v : Value) (hw : Region.wanted o (yielded ops a.tmps) = true)
    (h : ∀ w, C w → Oper.quietUpon P C w v ((execOp a.eval o).run P w)) (hn : wpQuiet P ops C Q rest (a.put o.dst v)) : wpQuiet P ops C Q (o :: rest) a :=
  BigFrame.wpQuiet_want hw fun _ hK => ⟨v, h, hK _ hn⟩
theorem region_quiet {P : Program} {id : Nat} {Q : Exit → Act → World → Prop} {a : Act} {w : World} {l : List Oper} (C : World → Prop) (hm : P.follows .mixedOrders = true) (hB : Region.lexB .any l.toArray = true) (hC : C { w with drawn := w.drawn + 1 })
    (h : wpQuiet P l.toArray C (fun a' => ∀ w', C w' → Q .normal a' w') l a) : (Code.region id l.toArray true).wp P Q a w :=
  wp_region_quiet (C := C) hm hB hC (by simpa using h)
theorem wrap_in (x : Int) (h : -9223372036854775808 ≤ x ∧ x ≤ 9223372036854775807) : IntKind.i64.wrap x = x := by
  rw [IntKind.wrap_i64]
  omega
def cnt (l : List Int) (r : Int) : Int := ((l.count r : Nat) : Int)
theorem cnt_app (l m : List Int) (r : Int) : cnt (l ++ m) r = cnt l r + cnt m r := by unfold cnt; rw [List.count_append]; push_cast; rfl
theorem cnt_nil (r : Int) : cnt [] r = 0 := rfl
theorem cnt_le (l : List Int) (r : Int) : 0 ≤ cnt l r ∧ cnt l r ≤ (l.length : Int) := by
  unfold cnt
  have := List.count_le_length (a := r) (l := l)
  omega
theorem cnt_one (r : Int) : cnt [r] r = 1 := by unfold cnt; simp
theorem cnt_dst {x : InsU} {r : Int} (hr : 0 ≤ r) : cnt (if 0 ≤ x.dst then [x.dst] else []) r = if x.dst = r then 1 else 0 := by
  by_cases h : x.dst = r
  · rw [if_pos (by omega), if_pos h, h, cnt_one]
  · rw [if_neg h]
    split
    · unfold cnt; rw [List.count_singleton]; simp [h]
    · rfl
set_option maxRecDepth 100000 in
theorem count_any (v : Opd) (r : Int) (w : World) : Calls Tryz.prog 45 #[.agg #[.bool v.reg, .int .i64 v.n], .int .i64 r] w fun e w' => e = .returned (.int .i64 (cnt (occV v) r)) ∧ Below w.heap.size w w' := by
  obtain ⟨b, n⟩ := v
  cases b with
  | false =>
    have HE : Hid (cnt (occV ⟨false, n⟩) r = 0) := Lib.hid rfl
    go_enter Tryz.func45, Tryz.ntmps45
    go_wp2_with fail
    go_ret
    exact ⟨ret_int HE.out.symm, (Below.refl _ _).alloc (Nat.le_refl _) _⟩
  | true =>
    by_cases h : n = r
    · have HE : Hid (cnt (occV ⟨true, n⟩) r = 1) := Lib.hid (by subst h; exact cnt_one n)
      go_enter Tryz.func45, Tryz.ntmps45
      go_wp2_with fail
      go_ret
      exact ⟨ret_int HE.out.symm, (Below.refl _ _).alloc (Nat.le_refl _) _⟩
    · have HE : Hid (cnt (occV ⟨true, n⟩) r = 0) := Lib.hid (by
        show cnt [n] r = 0
        unfold cnt; rw [List.count_singleton]; simp [h])
      go_enter Tryz.func45, Tryz.ntmps45
      go_wp2_with fail
      go_ret
      exact ⟨ret_int HE.out.symm, (Below.refl _ _).alloc (Nat.le_refl _) _⟩
def insCells (x : InsU) (aA : Option Addr) (ac : Nat) : Array Value := #[.int .i64 x.op, .int .i64 x.dst, .bool x.a.reg, .int .i64 x.a.n, .bool x.b.reg, .int .i64 x.b.n, .int .i64 x.fn, .slice aA x.args.length ac]
set_option maxRecDepth 100000 in
set_option maxHeartbeats 4000000 in
theorem WeightOf_any (nm : ByteArray) (ps regs : Int) (bA : Option Addr) (bl bc : Nat) (blocks : List BlkU) (r : Int) (w : World) (hb : BlksAt w w.heap.size (.slice bA bl bc) blocks) (hr : 0 ≤ r) (hlen : (occBs blocks).length ≤ 3000) :
    Calls Tryz.prog 21 #[.agg #[.string nm, .int .i64 ps, .int .i64 regs, .slice bA bl bc], .int .i64 r] w fun e w' => e = .returned (.int .i64 (cnt (occBs blocks) r)) ∧ Below w.heap.size w w' := by
  have HBL := Lib.hid hb
  have HL : Hid (blocks.length = bl) := Lib.hid (SlAt.len hb)
  have Hlen := Lib.hid hlen
  have Hr := Lib.hid hr
  have hbl63 : bl ≤ 9223372036854775807 := by
    obtain ⟨_, _, e, h1, h2⟩ := SlAt.form hb
    cases e
    omega
  have HB0 : Hid (Below w.heap.size w (w.alloc (.cells #[.string nm, .int .i64 ps, .int .i64 regs, .slice bA bl bc] 43))) := Lib.hid ((Below.refl _ _).alloc (Nat.le_refl _) _)
  have HK0 : Hid (Blk (w.alloc (.cells #[.string nm, .int .i64 ps, .int .i64 regs, .slice bA bl bc] 43)) w.heap.size 43 #[.string nm, .int .i64 ps, .int .i64 regs, .slice bA bl bc]) := Lib.hid (Blk.new _ _ _)
  clear hb hlen hr
  go_enter Tryz.func21, Tryz.ntmps21
  go_wp2_with fail
  generalize w.alloc (.cells #[.string nm, .int .i64 ps, .int .i64 regs, .slice bA bl bc] 43) = W0 at *
  go_loopg [5, 6] bl (fun gk s i wr => ∃ j : Nat, j + gk = bl ∧ s = .int .i64 (cnt (occBs (blocks.take j)) r) ∧ i = .int .i64 j ∧ Hid (Below w.heap.size w wr) ∧ Hid (Blk wr w.heap.size 43 #[.string nm, .int .i64 ps, .int .i64 regs, .slice bA bl bc]))
  case atStart => exact ⟨0, by omega, by simp [occBs, cnt_nil], rfl, HB0, HK0⟩
  case round =>
    obtain ⟨j, hj, rfl, rfl, HB, HK⟩ := hrel
    clear HB0 HK0
    have k3 := HK.out.cell 3
    rcases gk with _ | m
    · have hlt : ¬ (j : Int) < (bl : Int) := by omega
      have HE : Hid (cnt (occBs (blocks.take j)) r = cnt (occBs blocks) r) := Lib.hid (by rw [List.take_of_length_le (by rw [HL.out]; omega)])
      clear hj
      go_wp2_with fail
      go_ret
      exact ⟨ret_int HE.out, HB.out⟩
    · have hlt : (j : Int) < (bl : Int) := by omega
      have hj0 : (0 : Int) ≤ (j : Int) := Int.natCast_nonneg j
      obtain ⟨bb, bo, b, pA, pc, lA, lc, tA, tc, rfl, hbb, hbj, p0, p1, p2, p3, p4, p5, hph, hli, hto⟩ := BlksAt.one HBL.out (show j < bl by omega)
      have Hbj := Lib.hid hbj
      have Hbb := Lib.hid hbb
      have Hp3 := Lib.hid p3
      have Hp4 := Lib.hid p4
      obtain ⟨ll, hll⟩ : ∃ ll, b.list.length = ll := ⟨_, rfl⟩
      rw [hll] at p1 hli
      have Hp1 := Lib.hid p1
      have p1 := (bcell HB.out hbb).trans p1
      have Hll := Lib.hid hll
      have HLI := Lib.hid hli
      have hll63 : ll ≤ 9223372036854775807 := by
        obtain ⟨_, _, e, h1, h2⟩ := SlAt.form hli
        cases e
        omega
      clear p0 p2 p3 p4 p5 hph hli hto hll hbj
      go_wp2_with fail
      go_loopg [5, 7] ll (fun gi s i wr => ∃ q : Nat, q + gi = ll ∧ s = .int .i64 (cnt (occBs (blocks.take j) ++ occIs (b.list.take q)) r) ∧ i = .int .i64 q ∧ Hid (Below w.heap.size w wr) ∧ Hid (Blk wr w.heap.size 43 #[.string nm, .int .i64 ps, .int .i64 regs, .slice (some ⟨bb, bo, none⟩) bl bc]))
      case atStart => exact ⟨0, by omega, by simp [occIs], rfl, HB, HK⟩
      case round =>
        obtain ⟨q, hq, rfl, rfl, HBi, HKi⟩ := hrel
        clear k3 p1 HB HK
        have k3 := HKi.out.cell 3
        have p1 := (bcell HBi.out Hbb.out).trans Hp1.out
        have hbb1 : bb < wr.heap.size := Nat.lt_of_lt_of_le Hbb.out HBi.out.size
        rcases gk with _ | mi
        · have hlt2 : ¬ (q : Int) < (ll : Int) := by omega
          have hqe : q = ll := by omega
          have HE : Hid (cnt (occBs (blocks.take j) ++ occIs (b.list.take q)) r + cnt (occV b.on) r = cnt (occBs (blocks.take (j + 1))) r) := Lib.hid (by
            rw [List.take_of_length_le (l := b.list) (by rw [Hll.out]; omega), ← cnt_app, List.append_assoc, occBs_snoc Hbj.out]
            rfl)
          have HS : Hid (0 ≤ cnt (occBs (blocks.take (j + 1))) r ∧ cnt (occBs (blocks.take (j + 1))) r ≤ 5000) := Lib.hid (by
            have h1 := cnt_le (occBs (blocks.take (j + 1))) r
            have h2 := occBs_part Hbj.out
            have h3 := Hlen.out
            rw [occBs_snoc Hbj.out, List.length_append] at h1
            rw [occBs_snoc Hbj.out]
            omega)
          have p3 := (bcell HBi.out Hbb.out).trans Hp3.out
          have p4 := (bcell HBi.out Hbb.out).trans Hp4.out
          generalize cnt (occBs (blocks.take j) ++ occIs (b.list.take q)) r = s1 at *
          clear hqe hq
          go_wp2_with fail
          refine (count_any b.on r _).mono ?_
          rintro e W2 ⟨rfl, hb2⟩
          have HB2 := Lib.hid (HBi.out.trans (hb2.mono HBi.out.size))
          have HK2 := Lib.hid (HKi.out.below hb2 HKi.out.lt)
          have he := HE.out
          obtain ⟨h1, h2⟩ := HS.out
          rw [← he] at h1 h2
          have hwr : IntKind.i64.wrap (s1 + cnt (occV b.on) r) = s1 + cnt (occV b.on) r := wrap_in _ ⟨by omega, by omega⟩
          generalize cnt (occV b.on) r = s2 at *
          clear hb2 p1 p3 p4 k3 he h1 h2
          go_wp2_with fail
          go_roundg m
          case measure => omega
          case rel => exact ⟨j + 1, by omega, by rw [HE.out], by go_num, HB2, HK2⟩
        · have hlt2 : (q : Int) < (ll : Int) := by omega
          have hq0 : (0 : Int) ≤ (q : Int) := Int.natCast_nonneg q
          obtain ⟨xb, xo, x, aA, ac, rfl, hxb, hxi, q0, q1, q2, q3, q4, q5, q6, q7, hop⟩ := InssAt.one HLI.out (show q < ll by omega)
          have q0 := (bcell HBi.out hxb).trans q0
          have q1 := (bcell HBi.out hxb).trans q1
          have q2 := (bcell HBi.out hxb).trans q2
          have q3 := (bcell HBi.out hxb).trans q3
          have q4 := (bcell HBi.out hxb).trans q4
          have q5 := (bcell HBi.out hxb).trans q5
          have q6 := (bcell HBi.out hxb).trans q6
          have q7 := (bcell HBi.out hxb).trans q7
          have hxb1 : xb < wr.heap.size := Nat.lt_of_lt_of_le hxb HBi.out.size
          obtain ⟨al, hal⟩ : ∃ al, x.args.length = al := ⟨_, rfl⟩
          rw [hal] at q7 hop
          have Hxi := Lib.hid hxi
          have Hop := Lib.hid hop
          have Hal := Lib.hid hal
          have HB1 : Hid (Below w.heap.size w (wr.alloc (.cells #[.int .i64 x.op, .int .i64 x.dst, .bool x.a.reg, .int .i64 x.a.n, .bool x.b.reg, .int .i64 x.b.n, .int .i64 x.fn, .slice aA al ac] 69))) := Lib.hid (HBi.out.alloc HBi.out.size _)
          have HK1 := Lib.hid (HKi.out.alloc (.cells #[.int .i64 x.op, .int .i64 x.dst, .bool x.a.reg, .int .i64 x.a.n, .bool x.b.reg, .int .i64 x.b.n, .int .i64 x.fn, .slice aA al ac] 69))
          have HX1 : Hid (Blk (wr.alloc (.cells #[.int .i64 x.op, .int .i64 x.dst, .bool x.a.reg, .int .i64 x.a.n, .bool x.b.reg, .int .i64 x.b.n, .int .i64 x.fn, .slice aA al ac] 69)) wr.heap.size 69 #[.int .i64 x.op, .int .i64 x.dst, .bool x.a.reg, .int .i64 x.a.n, .bool x.b.reg, .int .i64 x.b.n, .int .i64 x.fn, .slice aA al ac]) := Lib.hid (Blk.new _ _ _)
          clear hxi hop hal
          go_upto_region 9 with fail
          clear q0 q1 q2 q3 q4 q5 q6 q7 k3 p1
          generalize wr.alloc (.cells #[.int .i64 x.op, .int .i64 x.dst, .bool x.a.reg, .int .i64 x.a.n, .bool x.b.reg, .int .i64 x.b.n, .int .i64 x.fn, .slice aA al ac] 69) = W1 at *
          generalize wr.heap.size = zx at *
          have hz := HX1.out.lt
          have x2 := HX1.out.cell 2
          have x3 := HX1.out.cell 3
          have x4 := HX1.out.cell 4
          have x5 := HX1.out.cell 5
          have HS : Hid (0 ≤ cnt (occBs (blocks.take j) ++ occIs (b.list.take q)) r ∧ cnt (occBs (blocks.take j) ++ occIs (b.list.take q)) r + cnt (occI x) r ≤ 5000) := Lib.hid (by
            have h1 := cnt_le (occBs (blocks.take j) ++ occIs (b.list.take q)) r
            have h2 := occBs_part Hbj.out
            have h3 := Hlen.out
            have h4 := occIs_part Hxi.out
            have h5 := cnt_le (occI x) r
            unfold occB at h2
            rw [List.length_append] at h1 h2
            omega)
          have HI : Hid (cnt (occI x) r = (if x.dst = r then 1 else 0) + cnt (occV x.a) r + cnt (occV x.b) r + cnt (occVs x.args) r) := Lib.hid (by
            unfold occI
            rw [cnt_app, cnt_app, cnt_app, cnt_dst Hr.out])
          have Hs1 : Hid (cnt (occBs (blocks.take j) ++ occIs (b.list.take q)) r + cnt (occI x) r = cnt (occBs (blocks.take j) ++ occIs (b.list.take (q + 1))) r) := Lib.hid (by
            rw [occIs_snoc Hxi.out, cnt_app, cnt_app, cnt_app]; omega)
          generalize cnt (occBs (blocks.take j) ++ occIs (b.list.take q)) r = s1 at *
          have hA := cnt_le (occV x.a) r
          have hB := cnt_le (occV x.b) r
          have hD := cnt_le (occVs x.args) r
          have hs1 := HS.out
          rw [HI.out] at hs1
          have hdd : (0 : Int) ≤ (if x.dst = r then 1 else 0) := by split <;> omega
          have hw1 : IntKind.i64.wrap (cnt (occV x.a) r + cnt (occV x.b) r) = cnt (occV x.a) r + cnt (occV x.b) r := wrap_in _ ⟨by omega, by omega⟩
          have hw2 : IntKind.i64.wrap (s1 + (cnt (occV x.a) r + cnt (occV x.b) r)) = s1 + (cnt (occV x.a) r + cnt (occV x.b) r) := wrap_in _ ⟨by omega, by omega⟩
          have Hb := Lib.hid (And.intro hA (And.intro hB (And.intro hD hs1)))
          clear hA hB hD hs1 hdd
          refine region_quiet (fun w' => Below W1.heap.size W1 w') (by kernel_rfl) (by kernel_rfl) ⟨rfl, rfl, rfl, Nat.le_refl _, fun _ _ => rfl⟩ ?_
          apply quiet_one
          · rfl
          · intro w' hC
            have HC := Lib.hid hC
            clear hC
            go_simp
            first | exact rfl | exact ⟨rfl, rfl⟩
          simp only [Act.put, List.setIfInBounds_toArray, List.set_cons_succ, List.set_cons_zero]
          apply quiet_one
          · rfl
          · intro w' hC
            have HC := Lib.hid hC
            clear hC
            go_simp
            first | exact rfl | exact ⟨rfl, rfl⟩
          simp only [Act.put, List.setIfInBounds_toArray, List.set_cons_succ, List.set_cons_zero]
          apply quiet_one
          · rfl
          · intro w' hC
            have c0 := (bcell hC hz).trans x2
            have c1 := (bcell hC hz).trans x3
            have HC := Lib.hid hC
            clear hC
            go_simp
            first | exact rfl | exact ⟨rfl, rfl⟩
          simp only [Act.put, List.setIfInBounds_toArray, List.set_cons_succ, List.set_cons_zero]
          apply quiet_one
          · rfl
          · intro w' hC
            have HC := Lib.hid hC
            clear hC
            go_simp
            first | exact rfl | exact ⟨rfl, rfl⟩
          simp only [Act.put, List.setIfInBounds_toArray, List.set_cons_succ, List.set_cons_zero]
          apply quiet_one
          · rfl
          · intro w' hC
            have HC := Lib.hid hC
            clear hC
            go_simp
            exact (count_any x.a r _).mono fun _ _ h => ⟨h.1, HC.out.trans (h.2.mono HC.out.size)⟩
          simp only [Act.put, List.setIfInBounds_toArray, List.set_cons_succ, List.set_cons_zero]
          apply quiet_one
          · rfl
          · intro w' hC
            have HC := Lib.hid hC
            clear hC
            go_simp
            first | exact rfl | exact ⟨rfl, rfl⟩
          simp only [Act.put, List.setIfInBounds_toArray, List.set_cons_succ, List.set_cons_zero]
          apply quiet_one
          · rfl
          · intro w' hC
            have c0 := (bcell hC hz).trans x4
            have c1 := (bcell hC hz).trans x5
            have HC := Lib.hid hC
            clear hC
            go_simp
            first | exact rfl | exact ⟨rfl, rfl⟩
          simp only [Act.put, List.setIfInBounds_toArray, List.set_cons_succ, List.set_cons_zero]
          apply quiet_one
          · rfl
          · intro w' hC
            have HC := Lib.hid hC
            clear hC
            go_simp
            first | exact rfl | exact ⟨rfl, rfl⟩
          simp only [Act.put, List.setIfInBounds_toArray, List.set_cons_succ, List.set_cons_zero]
          apply quiet_one
          · rfl
          · intro w' hC
            have HC := Lib.hid hC
            clear hC
            go_simp
            exact (count_any x.b r _).mono fun _ _ h => ⟨h.1, HC.out.trans (h.2.mono HC.out.size)⟩
          simp only [Act.put, List.setIfInBounds_toArray, List.set_cons_succ, List.set_cons_zero]
          apply quiet_one
          · rfl
          · intro w' hC
            have HC := Lib.hid hC
            clear hC
            go_simp
            first | exact rfl | exact ⟨rfl, rfl⟩
          simp only [Act.put, List.setIfInBounds_toArray, List.set_cons_succ, List.set_cons_zero]
          apply quiet_one
          · rfl
          · intro w' hC
            have HC := Lib.hid hC
            clear hC
            go_simp
            first | exact rfl | exact ⟨rfl, rfl⟩
          simp only [Act.put, List.setIfInBounds_toArray, List.set_cons_succ, List.set_cons_zero]
          apply quiet_one
          · rfl
          · intro w' hC
            have HC := Lib.hid hC
            clear hC
            go_simp
            first | exact rfl | exact ⟨rfl, rfl⟩
          simp only [Act.put, List.setIfInBounds_toArray, List.set_cons_succ, List.set_cons_zero]
          refine wpQuiet_nil ?_
          intro W2 hC
          have HX2 := Lib.hid (HX1.out.below hC HX1.out.lt)
          have HK2 := Lib.hid (HK1.out.below hC HK1.out.lt)
          have HB2 := Lib.hid (HB1.out.trans (hC.mono HB1.out.size))
          clear hC x2 x3 x4 x5 hw1 hw2 HX1 HK1 HB1 hz
          obtain ⟨s2, hs2⟩ : ∃ s2, s1 + (cnt (occV x.a) r + cnt (occV x.b) r) = s2 := ⟨_, rfl⟩
          rw [hs2]
          have Hs2 := Lib.hid hs2
          clear hs2
          have x1 := HX2.out.cell 1
          have hal63 : al ≤ 9223372036854775807 := by
            obtain ⟨_, _, e, h1, h2⟩ := SlAt.form Hop.out
            cases e
            omega
          go_upto_if 51 with fail
          go_cut [5] (fun s wx => s = .int .i64 (s2 + (if x.dst = r then 1 else 0)) ∧ wx = W2)
          case first =>
            have hs2 := Hs2.out
            obtain ⟨hA, hB, hD, hs1⟩ := Hb.out
            by_cases hd : x.dst = r
            · have HE : Hid (s2 + (if x.dst = r then 1 else 0) = s2 + 1) := Lib.hid (by rw [if_pos hd])
              rw [if_pos hd] at hs1
              have hw : IntKind.i64.wrap (s2 + 1) = s2 + 1 := wrap_in _ ⟨by omega, by omega⟩
              have hw' : wrap64 (s2 + 1) = s2 + 1 := IntWalk.wrap64_in _ ⟨by omega, by omega⟩
              clear hA hB hD hs1 hs2
              go_wp2_with fail
              go_meet
              exact ⟨by rw [HE.out], rfl⟩
            · have HE : Hid (s2 + (if x.dst = r then 1 else 0) = s2) := Lib.hid (by rw [if_neg hd]; omega)
              rw [if_neg hd] at hs1
              clear hA hB hD hs1 hs2
              go_wp2_with fail
              go_meet
              exact ⟨by rw [HE.out], rfl⟩
          case rest =>
            obtain ⟨rfl, rfl⟩ := hcut
            have Hs3 : Hid (s2 + (if x.dst = r then 1 else 0) + cnt (occVs x.args) r = s1 + cnt (occI x) r) := Lib.hid (by rw [HI.out]; have := Hs2.out; omega)
            obtain ⟨s3, hs3⟩ : ∃ s3, s2 + (if x.dst = r then 1 else 0) = s3 := ⟨_, rfl⟩
            rw [hs3] at Hs3
            have Hb3 : Hid (0 ≤ s3 ∧ s3 + cnt (occVs x.args) r ≤ 5000) := Lib.hid (by
              have h1 := HS.out
              have h2 := Hs3.out
              have h3 := Hs2.out
              obtain ⟨hA, hB, hD, hs1⟩ := Hb.out
              refine ⟨?_, by omega⟩
              have : (0 : Int) ≤ (if x.dst = r then 1 else 0) := by split <;> omega
              omega)
            rw [hs3]
            clear hs3 x1
            go_wp2_with fail
            go_loopg [5, 9] al (fun gi s i wr => ∃ p : Nat, p + gi = al ∧ s = .int .i64 (s3 + cnt (occVs (x.args.take p)) r) ∧ i = .int .i64 p ∧ Hid (Below w.heap.size w wr) ∧ Hid (Blk wr w.heap.size 43 #[.string nm, .int .i64 ps, .int .i64 regs, .slice (some ⟨bb, bo, none⟩) bl bc]) ∧ Hid (Blk wr zx 69 #[.int .i64 x.op, .int .i64 x.dst, .bool x.a.reg, .int .i64 x.a.n, .bool x.b.reg, .int .i64 x.b.n, .int .i64 x.fn, .slice aA al ac]))
            case atStart => exact ⟨0, by omega, by simp [occVs, cnt_nil], rfl, HB2, HK2, HX2⟩
            case round =>
              obtain ⟨p, hp, rfl, rfl, HBp, HKp, HXp⟩ := hrel
              clear HB2 HK2 HX2
              have x7 := HXp.out.cell 7
              rcases gk with _ | mp
              · have hlt3 : ¬ (p : Int) < (al : Int) := by omega
                have HE : Hid (s3 + cnt (occVs (x.args.take p)) r = cnt (occBs (blocks.take j) ++ occIs (b.list.take (q + 1))) r) := Lib.hid (by
                  rw [List.take_of_length_le (l := x.args) (by rw [Hal.out]; omega), Hs3.out, Hs1.out])
                rw [HE.out]
                clear hp
                go_wp2_with fail
                go_roundg mi
                case measure => omega
                case rel => exact ⟨q + 1, by omega, rfl, by go_num, HBp, HKp⟩
              · have hlt3 : (p : Int) < (al : Int) := by omega
                have hp0 : (0 : Int) ≤ (p : Int) := Int.natCast_nonneg p
                obtain ⟨v, hv⟩ : ∃ v, x.args[p]? = some v := ⟨x.args[p]'(by rw [Hal.out]; omega), List.getElem?_eq_getElem _⟩
                obtain ⟨ab, ao, rfl, hab, c0, c1⟩ := opd_at Hop.out hv
                have v0 := (bcell HBp.out hab).trans c0
                have v1 := (bcell HBp.out hab).trans c1
                have Hv := Lib.hid hv
                have HE : Hid (s3 + cnt (occVs (x.args.take p)) r + cnt (occV v) r = s3 + cnt (occVs (x.args.take (p + 1))) r) := Lib.hid (by
                  rw [occVs_snoc Hv.out, cnt_app]; omega)
                have hw : IntKind.i64.wrap (s3 + cnt (occVs (x.args.take p)) r + cnt (occV v) r) = s3 + cnt (occVs (x.args.take p)) r + cnt (occV v) r := by
                  have h1 := Hb3.out
                  have e : occVs x.args = occVs (x.args.take (p + 1)) ++ occVs (x.args.drop (p + 1)) := by rw [← occVs_app, List.take_append_drop]
                  rw [e, cnt_app] at h1
                  have h2 := cnt_le (occVs (x.args.drop (p + 1))) r
                  have h3 := HE.out
                  have h4 := cnt_le (occVs (x.args.take (p + 1))) r
                  exact wrap_in _ ⟨by omega, by omega⟩
                generalize s3 + cnt (occVs (x.args.take p)) r = s4 at *
                clear hv c0 c1
                go_wp2_with fail
                refine (count_any v r _).mono ?_
                rintro e W3 ⟨rfl, hb3⟩
                have HB4 := Lib.hid (HBp.out.trans (hb3.mono HBp.out.size))
                have HK4 := Lib.hid (HKp.out.below hb3 HKp.out.lt)
                have HX4 := Lib.hid (HXp.out.below hb3 HXp.out.lt)
                clear hb3 v0 v1 x7
                generalize cnt (occV v) r = s5 at *
                go_wp2_with fail
                go_roundg mp
                case measure => omega
                case rel => exact ⟨p + 1, by omega, by rw [HE.out], by go_num, HB4, HK4, HX4⟩
theorem ints_snoc {w : World} {base : Nat} {v : Value} {xs : List Int} {x : Int} (h : w.ownsRow base 3 1 v (xs.length + 1) (xs.map (Value.int .i64) ++ [.int .i64 x])) : OwnInts w base v (xs ++ [x]) := by
  unfold OwnInts
  rw [List.length_append, List.map_append]
  exact h
theorem own_far {w : World} {base g : Nat} {e t : TypeId} {size n : Nat} {v : Value} {xs : List Value} {cs : Array Value} (h : w.ownsRow base e size v n xs) (hb : Blk w g t cs) (ht : t ≠ e) (o : Nat) (u : Value) : (w.setCell ⟨g, o, none⟩ u).ownsRow base e size v n xs := by
  refine ownsRow_setCell_other h (a := ⟨g, o, none⟩) ?_ u
  rcases h.2 with ⟨rfl, _⟩ | ⟨g', cap, cur, rfl, _, hh, _⟩
  · simp [Value.ownBlock]
  · intro e'
    obtain rfl : g' = g := by simpa [Value.ownBlock] using e'
    have := (show w.heap[g']? = _ from hb).symm.trans hh
    simp at this
    exact ht this.2
theorem OwnInts.far {w : World} {base g : Nat} {t : TypeId} {v : Value} {xs : List Int} {cs : Array Value} (h : OwnInts w base v xs) (hb : Blk w g t cs) (ht : t ≠ 3) (o : Nat) (u : Value) : OwnInts (w.setCell ⟨g, o, none⟩ u) base v xs := own_far h hb ht o u
theorem tally_succ (j : Nat) (l : List Int) : tally (j + 1) l = tally j l ++ [cnt l (j : Int)] := by
  unfold tally
  rw [List.range_succ, List.map_append]
  rfl
end Go.Proofs.YtiknhfbkphoceaaGreatDoor
