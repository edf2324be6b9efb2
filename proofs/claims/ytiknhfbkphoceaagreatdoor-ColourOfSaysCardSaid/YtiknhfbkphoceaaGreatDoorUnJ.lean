/-
  Several texts in one (UnI UnJ): what each proves stands at its theorems.
  Conditions: as the theorems say.
-/
import Derived.Test.YtiknhfbkphoceaaGreatDoorUnE
import Derived.Deep.DeepCutAuto
import Derived.Deep.RegionHeld3
namespace Go.Proofs.YtiknhfbkphoceaaGreatDoor
open Go.RowKit

set_option maxRecDepth 100000 in
set_option maxHeartbeats 1000000 in
theorem insA_any (gA fA bA aA : Option Addr) (gl gc fl fc bl bc al ac : Nat) (nm : ByteArray) (ps regs : Int) (g1 g2 : Nat) (xA : Option Addr) (xl xc : Nat) (x : InsU) (w : World) (hr : 0 ≤ regs ∧ regs ≤ 100) (hC : Blk w g1 118 #[.slice gA gl gc, .slice fA fl fc, .string nm, .int .i64 ps, .int .i64 regs, .slice bA bl bc, .slice aA al ac]) (hX : Blk w g2 69 #[.int .i64 x.op, .int .i64 x.dst, .bool x.a.reg, .int .i64 x.a.n, .bool x.b.reg, .int .i64 x.b.n, .int .i64 x.fn, .slice xA xl xc]) :
    Calls Tryz.prog 104 #[.pointer (some ⟨g1, 0, none⟩), .pointer (some ⟨g2, 0, none⟩)] w fun e w' => e = .returned (.int .i64 (valE regs x.a)) ∧ Below w.heap.size w w' := by
  have HV := Lib.hid (val_any gA fA bA aA gl gc fl fc bl bc al ac nm ps regs x.a w hr)
  have c0 := hC.cell 0
  have c1 := hC.cell 1
  have c2 := hC.cell 2
  have c3 := hC.cell 3
  have c4 := hC.cell 4
  have c5 := hC.cell 5
  have c6 := hC.cell 6
  have d0 := hX.cell 2
  have d1 := hX.cell 3
  clear hC hX hr
  go_enter Tryz.func104, Tryz.ntmps104
  go_wp2_with fail
  refine HV.out.mono ?_
  rintro e w1 ⟨rfl, hb1⟩
  go_wp2_with fail
  go_ret
  exact ⟨rfl, hb1⟩
set_option maxRecDepth 100000 in
set_option maxHeartbeats 1000000 in
theorem insB_any (gA fA bA aA : Option Addr) (gl gc fl fc bl bc al ac : Nat) (nm : ByteArray) (ps regs : Int) (g1 g2 : Nat) (xA : Option Addr) (xl xc : Nat) (x : InsU) (w : World) (hr : 0 ≤ regs ∧ regs ≤ 100) (hC : Blk w g1 118 #[.slice gA gl gc, .slice fA fl fc, .string nm, .int .i64 ps, .int .i64 regs, .slice bA bl bc, .slice aA al ac]) (hX : Blk w g2 69 #[.int .i64 x.op, .int .i64 x.dst, .bool x.a.reg, .int .i64 x.a.n, .bool x.b.reg, .int .i64 x.b.n, .int .i64 x.fn, .slice xA xl xc]) :
    Calls Tryz.prog 105 #[.pointer (some ⟨g1, 0, none⟩), .pointer (some ⟨g2, 0, none⟩)] w fun e w' => e = .returned (.int .i64 (valE regs x.b)) ∧ Below w.heap.size w w' := by
  have HV := Lib.hid (val_any gA fA bA aA gl gc fl fc bl bc al ac nm ps regs x.b w hr)
  have c0 := hC.cell 0
  have c1 := hC.cell 1
  have c2 := hC.cell 2
  have c3 := hC.cell 3
  have c4 := hC.cell 4
  have c5 := hC.cell 5
  have c6 := hC.cell 6
  have d0 := hX.cell 4
  have d1 := hX.cell 5
  clear hC hX hr
  go_enter Tryz.func105, Tryz.ntmps105
  go_wp2_with fail
  refine HV.out.mono ?_
  rintro e w1 ⟨rfl, hb1⟩
  go_wp2_with fail
  go_ret
  exact ⟨rfl, hb1⟩
def argBad (regs : Int) (args : List Opd) (k : Nat) : Int := badOf (fun _ v => valE regs v) args k
theorem argE_hit {ps : List Int} {regs : Int} {x : InsU} {i k : Nat} {p : Int} {v : Opd} (h20 : x.op = 20) (hfn : x.fn = (i : Int)) (hp : ps[i]? = some p) (hl : (x.args.length : Int) = p) (hk : x.args[k]? = some v) (h : valE regs v ≠ 0) (hb : ∀ j, j < k → argBad regs x.args j = 0) : argE ps regs x = valE regs v := by
  have hlt := (List.getElem?_eq_some_iff.1 hp).1
  unfold argE
  rw [if_neg (by simpa using h20), if_neg (by rw [hfn]; unfold inB; simp; omega), if_neg (by rw [hfn, List.getD_eq_getElem?_getD, Int.toNat_natCast, hp]; simpa using hl)]
  exact firstE_hit hk h hb
theorem argE_ok {ps : List Int} {regs : Int} {x : InsU} {i : Nat} {p : Int} (h20 : x.op = 20) (hfn : x.fn = (i : Int)) (hp : ps[i]? = some p) (hl : (x.args.length : Int) = p) (hb : ∀ j, j < x.args.length → argBad regs x.args j = 0) : argE ps regs x = 0 := by
  have hlt := (List.getElem?_eq_some_iff.1 hp).1
  unfold argE
  rw [if_neg (by simpa using h20), if_neg (by rw [hfn]; unfold inB; simp; omega), if_neg (by rw [hfn, List.getD_eq_getElem?_getD, Int.toNat_natCast, hp]; simpa using hl)]
  exact firstE_ok hb
theorem argE_size {ps : List Int} {regs : Int} {x : InsU} {i : Nat} {p : Int} (h20 : x.op = 20) (hfn : x.fn = (i : Int)) (hp : ps[i]? = some p) (hl : (x.args.length : Int) ≠ p) : argE ps regs x = 9 := by
  have hlt := (List.getElem?_eq_some_iff.1 hp).1
  unfold argE
  rw [if_neg (by simpa using h20), if_neg (by rw [hfn]; unfold inB; simp; omega), if_pos (by rw [hfn, List.getD_eq_getElem?_getD, Int.toNat_natCast, hp]; simpa using hl)]
theorem argE_far {ps : List Int} {regs : Int} {x : InsU} (h20 : x.op = 20) (h : decide (0 ≤ x.fn ∧ x.fn ≤ (ps.length : Int) - 1) = false) : argE ps regs x = 3 := by
  unfold argE
  rw [if_neg (by simpa using h20), if_pos (by unfold inB; exact h)]
theorem argE_no {ps : List Int} {regs : Int} {x : InsU} (h20 : x.op ≠ 20) : argE ps regs x = 0 := by
  unfold argE
  rw [if_pos h20]
theorem FunsAt.params {w : World} {B : Nat} {A : Option Addr} {l c : Nat} {fs : List FunU} (h : FunsAt w B (.slice A l c) fs) {i : Nat} (hi : i < l) : ∃ b off f, A = some ⟨b, off, none⟩ ∧ b < B ∧ fs[i]? = some f ∧ (fs.map FunU.params)[i]? = some f.params ∧ w.cell? ⟨b, off + i * 4 + 1, none⟩ = some (.int .i64 f.params) := by
  have hl := SlAt.len h
  obtain ⟨f, hf⟩ : ∃ f, fs[i]? = some f := ⟨fs[i]'(by omega), List.getElem?_eq_getElem _⟩
  obtain ⟨b, off, e, hb, us, ⟨bv, rfl, _⟩, hc⟩ := SlAt.at h hf
  exact ⟨b, off, f, e, hb, hf, by rw [List.getElem?_map, hf]; rfl, hc 1 _ rfl⟩
set_option maxRecDepth 100000 in
set_option maxHeartbeats 2000000 in
theorem insC_any (gA fA bA aA : Option Addr) (gl gc fl fc bl bc al ac : Nat) (nm : ByteArray) (ps regs : Int) (g0 g1 g2 : Nat) (xA : Option Addr) (xl xc : Nat) (x : InsU) (fs : List FunU) (w : World) (hr : 0 ≤ regs ∧ regs ≤ 100) (hC : Blk w g1 118 #[.slice gA gl gc, .slice fA fl fc, .string nm, .int .i64 ps, .int .i64 regs, .slice bA bl bc, .slice aA al ac]) (hX : Blk w g2 69 #[.int .i64 x.op, .int .i64 x.dst, .bool x.a.reg, .int .i64 x.a.n, .bool x.b.reg, .int .i64 x.b.n, .int .i64 x.fn, .slice xA xl xc])
    (h0 : w.cell? ⟨g0, 0, none⟩ = some (.bool (decide (x.op = 20)))) (hf : FunsAt w w.heap.size (.slice fA fl fc) fs) (ha : OpdsAt w w.heap.size (.slice xA xl xc) x.args) (hfl : fl ≤ 9223372036854775807) :
    Calls Tryz.prog 106 #[.pointer (some ⟨g0, 0, none⟩), .pointer (some ⟨g2, 0, none⟩), .pointer (some ⟨g1, 0, none⟩)] w fun e w' => e = .returned (.int .i64 (argE (fs.map FunU.params) regs x)) ∧ Below w.heap.size w w' := by
  by_cases h20 : x.op = 20
  · rw [decide_eq_true h20] at h0
    have Hr := Lib.hid hr
    have HCb := Lib.hid hC
    have HA := Lib.hid ha
    have hxl : x.args.length = xl := SlAt.len ha
    have hx63 : xl ≤ 9223372036854775807 := by
      obtain ⟨A', c', e, h1, h2⟩ := SlAt.form ha
      omega
    have Hxl := Lib.hid hxl
    have hflen : fs.length = fl := SlAt.len hf
    have HW := Lib.hid (Within_any x.fn 0 ((fl : Int) - 1))
    have c1 := hC.cell 1
    have d5 := hX.cell 6
    have d6 := hX.cell 7
    have H20 := Lib.hid h20
    by_cases hin : 0 ≤ x.fn ∧ x.fn ≤ (fl : Int) - 1
    · have hq : decide (0 ≤ x.fn ∧ x.fn ≤ (fl : Int) - 1) = true := decide_eq_true hin
      rw [hq] at HW
      obtain ⟨i, hi⟩ : ∃ i : Nat, x.fn = (i : Int) := ⟨x.fn.toNat, by omega⟩
      have hil : i < fl := by omega
      obtain ⟨fb, foff, f, rfl, hfb, hfi, hpi, cp⟩ := hf.params hil
      have Hp := Lib.hid hpi
      obtain ⟨op, dst, xa, xb, fn, args⟩ := x
      simp only at hi d5 d6 hxl
      subst hi
      generalize f.params = p at *
      have hi0 : (0 : Int) ≤ (i : Int) := Int.natCast_nonneg i
      have hi1 : (i : Int) < (fl : Int) := by omega
      clear hq hin h20 hC hX hf ha hfi hpi hr hflen hxl
      go_enter Tryz.func106, Tryz.ntmps106
      go_wp2_with fail
      refine (HW.out _).mono ?_
      rintro e w1 ⟨rfl, rfl⟩
      by_cases hlp : (xl : Int) = p
      · have HLp : Hid ((args.length : Int) = p) := Lib.hid (by rw [show args.length = xl from Hxl.out]; exact hlp)
        subst hlp
        go_wp2_with fail
        go_quiet (fail)
        have HB0 : Hid (Below w.heap.size w (w.drewN nq)) := Lib.hid (below_drewN (Below.refl _ _) _)
        have e6 : (w.drewN nq).cell? ⟨g2, 7, none⟩ = some (.slice xA xl xc) := d6
        generalize w.drewN nq = W at *
        go_wp2_with fail
        go_loopw [36] (fun i wr => ∃ k : Nat, k ≤ xl ∧ i = .int .i64 k ∧ Hid (∀ j, j < k → argBad regs args j = 0) ∧ Hid (Below w.heap.size w wr)) (fun i _ => xl - (intOf i).toNat)
        case atStart => exact ⟨0, Nat.zero_le _, rfl, Lib.hid (fun j h => absurd h (Nat.not_lt_zero j)), HB0⟩
        case round =>
          obtain ⟨k, hk, rfl, HN, HB⟩ := hrel
          by_cases hlt : k < xl
          · obtain ⟨⟨vr, vn⟩, hv⟩ : ∃ v, args[k]? = some v := ⟨args[k]'(by have : args.length = xl := Hxl.out; omega), List.getElem?_eq_getElem _⟩
            obtain ⟨xb', xoff, hxA, hxb, us, hus, hcell⟩ := SlAt.at HA.out hv
            unfold OpdP at hus
            subst hus
            have v0 := (bcell HB.out hxb).trans (hcell 0 _ rfl)
            have v1 := (bcell HB.out hxb).trans (hcell 1 _ rfl)
            simp only [Nat.add_zero] at v0 v1
            subst hxA
            have HC2 := HCb.out.below HB.out HCb.out.lt
            have hg1 := HC2.lt
            have q0 := HC2.cell 0
            have q1 := HC2.cell 1
            have q2 := HC2.cell 2
            have q3 := HC2.cell 3
            have q4 := HC2.cell 4
            have q5 := HC2.cell 5
            have q6 := HC2.cell 6
            have HB2 := Lib.hid (HB.out.alloc HB.out.size (.cells #[.bool vr, .int .i64 vn] 66))
            have Hv := Lib.hid hv
            have hk0 : (0 : Int) ≤ (k : Int) := Int.natCast_nonneg k
            have hk1 : (k : Int) < (xl : Int) := by omega
            clear hcell HC2 hv
            go_wp2_with fail
            refine (val_any _ _ _ _ _ _ _ _ _ _ _ _ _ ps regs ⟨vr, vn⟩ _ Hr.out).mono ?_
            rintro e w3 ⟨rfl, hb3⟩
            have HB3 := Lib.hid (HB2.out.trans (hb3.mono HB2.out.size))
            clear hb3
            by_cases he : valE regs ⟨vr, vn⟩ = 0
            · have HN2 : Hid (∀ j, j < k + 1 → argBad regs args j = 0) := Lib.hid (bad_step Hv.out he HN.out)
              rw [he]
              go_wp2_with fail
              go_roundw
              case rel => exact ⟨k + 1, by omega, by go_num, HN2, HB3⟩
              case measure => simp [intOf]; omega
            · have HE := Lib.hid (argE_hit (ps := fs.map FunU.params) (x := ⟨op, dst, xa, xb, (i : Int), args⟩) H20.out rfl Hp.out HLp.out Hv.out he HN.out)
              have hne : (valE regs ⟨vr, vn⟩ != 0) = true := by simpa using he
              clear he
              generalize valE regs ⟨vr, vn⟩ = ev at *
              go_wp2_with fail
              go_ret
              exact ⟨ret_int HE.out.symm, HB3.out⟩
          · have HE := Lib.hid (argE_ok (ps := fs.map FunU.params) (regs := regs) (x := ⟨op, dst, xa, xb, (i : Int), args⟩) H20.out rfl Hp.out HLp.out (by intro j hj; exact HN.out j (by have : args.length = xl := Hxl.out; have hj' : j < args.length := hj; omega)))
            go_wp2_with fail
            go_ret
            exact ⟨ret_int HE.out.symm, HB.out⟩
      · have HE := Lib.hid (argE_size (regs := regs) (x := ⟨op, dst, xa, xb, (i : Int), args⟩) H20.out rfl Hp.out (by rw [show args.length = xl from Hxl.out]; exact hlp))
        have hlb : ((xl : Int) != p) = true := by simpa using hlp
        clear hlp
        go_wp2_with fail
        go_quiet (fail)
        go_wp2_with fail
        go_ret
        exact ⟨ret_int HE.out.symm, below_drewN (Below.refl _ _) _⟩
    · have hq : decide (0 ≤ x.fn ∧ x.fn ≤ (fl : Int) - 1) = false := decide_eq_false hin
      have HE := Lib.hid (argE_far (ps := fs.map FunU.params) (regs := regs) h20 (by rw [List.length_map, hflen]; exact hq))
      rw [hq] at HW
      clear hq hin h20 hC hX hf ha hr
      go_enter Tryz.func106, Tryz.ntmps106
      go_wp2_with fail
      refine (HW.out _).mono ?_
      rintro e w1 ⟨rfl, rfl⟩
      go_wp2_with fail
      go_ret
      exact ⟨ret_int HE.out.symm, Below.refl _ _⟩
  · rw [decide_eq_false h20] at h0
    have HE := Lib.hid (argE_no (ps := fs.map FunU.params) (regs := regs) h20)
    clear h20 hC hX hf ha hr
    go_enter Tryz.func106, Tryz.ntmps106
    go_wp2_with fail
    go_ret
    exact ⟨ret_int HE.out.symm, Below.refl _ _⟩
end Go.Proofs.YtiknhfbkphoceaaGreatDoor
namespace Go.Proofs.YtiknhfbkphoceaaGreatDoor
open Go.RowKit

/-- Is an instruction not in its form? -/
def formB (x : InsU) : Bool := decide ((hasD x.op = false ∧ x.dst ≠ -1) ∨ (hasA x.op = false ∧ x.a ≠ Opd.zero) ∨ (hasB x.op = false ∧ x.b ≠ Opd.zero) ∨ (x.op ≠ 20 ∧ (x.fn ≠ 0 ∨ 0 < x.args.length)))
/-- Is its Dst to be looked at? -/
def needD (x : InsU) : Bool := hasD x.op && !(decide (x.op = 20) && decide (x.dst = -1))
section
variable {ps : List Int} {regs : Int} {x : InsU}
theorem insE_4 (h : decide (1 ≤ x.op ∧ x.op ≤ 22) = false) : insE ps regs x = 4 := by unfold insE; rw [if_pos (by unfold inB; exact h)]
theorem insE_5 (h : 1 ≤ x.op ∧ x.op ≤ 22) (h2 : formB x = true) : insE ps regs x = 5 := by
  unfold formB at h2
  rw [decide_eq_true_eq] at h2
  unfold insE
  rw [if_neg (by unfold inB; rw [decide_eq_true h]; simp), if_pos h2]
theorem insE_d (h : 1 ≤ x.op ∧ x.op ≤ 22) (h2 : formB x = false) (h3 : needD x = true) (h4 : dstE regs x.dst ≠ 0) : insE ps regs x = dstE regs x.dst := by
  unfold formB at h2
  rw [decide_eq_false_iff_not] at h2
  unfold needD at h3
  simp only [Bool.and_eq_true, Bool.not_eq_true', Bool.and_eq_false_iff, decide_eq_false_iff_not] at h3
  unfold insE
  rw [if_neg (by unfold inB; rw [decide_eq_true h]; simp), if_neg h2, if_pos ⟨h3.1, fun h => by rcases h3.2 with h' | h'; exact h' h.1; exact h' h.2, h4⟩]
theorem insE_t (h : 1 ≤ x.op ∧ x.op ≤ 22) (h2 : formB x = false) (h3 : needD x = true → dstE regs x.dst = 0) : insE ps regs x = first3 (valE regs x.a) (valE regs x.b) (argE ps regs x) := by
  unfold formB at h2
  rw [decide_eq_false_iff_not] at h2
  unfold insE first3
  rw [if_neg (by unfold inB; rw [decide_eq_true h]; simp), if_neg h2, if_neg]
  rintro ⟨h4, h5, h6⟩
  refine h6 (h3 ?_)
  unfold needD
  rw [h4]
  simp only [Bool.true_and, Bool.not_eq_true', Bool.and_eq_false_iff, decide_eq_false_iff_not]
  by_cases hc : x.op = 20
  · exact .inr fun hd => h5 ⟨hc, hd⟩
  · exact .inl hc
end
set_option maxRecDepth 100000 in
set_option maxHeartbeats 4000000 in
theorem ins_any (gA fA bA aA : Option Addr) (gl gc fl fc bl bc al ac : Nat) (nm : ByteArray) (ps regs : Int) (xA : Option Addr) (xl xc : Nat) (op dst : Int) (ar br : Bool) (an bn fn : Int) (args : List Opd) (fs : List FunU) (w : World) (hr : 0 ≤ regs ∧ regs ≤ 100) (hdst : I64 dst)
    (hf : FunsAt w w.heap.size (.slice fA fl fc) fs) (ha : OpdsAt w w.heap.size (.slice xA xl xc) args) (hfl : fl ≤ 9223372036854775807) :
    Calls Tryz.prog 87 #[.agg #[.slice gA gl gc, .slice fA fl fc, .string nm, .int .i64 ps, .int .i64 regs, .slice bA bl bc, .slice aA al ac], .agg #[.int .i64 op, .int .i64 dst, .bool ar, .int .i64 an, .bool br, .int .i64 bn, .int .i64 fn, .slice xA xl xc]] w fun e w' => e = .returned (.int .i64 (insE (fs.map FunU.params) regs ⟨op, dst, ⟨ar, an⟩, ⟨br, bn⟩, fn, args⟩)) ∧ Below w.heap.size w w' := by
  have Hr := Lib.hid hr
  have HF := Lib.hid hf
  have HA := Lib.hid ha
  have hxl : args.length = xl := SlAt.len ha
  have hx63 : xl ≤ 9223372036854775807 := by
    obtain ⟨A', c', e, h1, h2⟩ := SlAt.form ha
    omega
  have Hxl := Lib.hid hxl
  have HW := Lib.hid (Within_any op 1 22)
  have hd0 : -9223372036854775808 ≤ dst := hdst.1
  have hd1 : dst ≤ 9223372036854775807 := hdst.2
  clear hr hf ha hdst hxl
  by_cases hin : 1 ≤ op ∧ op ≤ 22
  · rw [decide_eq_true hin] at HW
    have Hin := Lib.hid hin
    clear hin
    have HW0 : Hid (Below w.heap.size w ((w.alloc (.cells #[.slice gA gl gc, .slice fA fl fc, .string nm, .int .i64 ps, .int .i64 regs, .slice bA bl bc, .slice aA al ac] 118)).alloc (.cells #[.int .i64 op, .int .i64 dst, .bool ar, .int .i64 an, .bool br, .int .i64 bn, .int .i64 fn, .slice xA xl xc] 69))) := Lib.hid (((Below.refl _ _).alloc (Nat.le_refl _) _).alloc (by simp) _)
    have HC0 : Hid (Blk ((w.alloc (.cells #[.slice gA gl gc, .slice fA fl fc, .string nm, .int .i64 ps, .int .i64 regs, .slice bA bl bc, .slice aA al ac] 118)).alloc (.cells #[.int .i64 op, .int .i64 dst, .bool ar, .int .i64 an, .bool br, .int .i64 bn, .int .i64 fn, .slice xA xl xc] 69)) w.heap.size 118 #[.slice gA gl gc, .slice fA fl fc, .string nm, .int .i64 ps, .int .i64 regs, .slice bA bl bc, .slice aA al ac]) := Lib.hid ((Blk.new w _ _).alloc _)
    have HX0 : Hid (Blk ((w.alloc (.cells #[.slice gA gl gc, .slice fA fl fc, .string nm, .int .i64 ps, .int .i64 regs, .slice bA bl bc, .slice aA al ac] 118)).alloc (.cells #[.int .i64 op, .int .i64 dst, .bool ar, .int .i64 an, .bool br, .int .i64 bn, .int .i64 fn, .slice xA xl xc] 69)) (w.heap.size + 1) 69 #[.int .i64 op, .int .i64 dst, .bool ar, .int .i64 an, .bool br, .int .i64 bn, .int .i64 fn, .slice xA xl xc]) := Lib.hid (by simpa using Blk.new (w.alloc (.cells #[.slice gA gl gc, .slice fA fl fc, .string nm, .int .i64 ps, .int .i64 regs, .slice bA bl bc, .slice aA al ac] 118)) 69 #[.int .i64 op, .int .i64 dst, .bool ar, .int .i64 an, .bool br, .int .i64 bn, .int .i64 fn, .slice xA xl xc])
    go_enter Tryz.func87, Tryz.ntmps87
    go_wp2_with fail
    refine (HW.out _).mono ?_
    rintro e w1 ⟨rfl, rfl⟩
    go_wp2_with fail
    generalize (w.alloc (.cells #[.slice gA gl gc, .slice fA fl fc, .string nm, .int .i64 ps, .int .i64 regs, .slice bA bl bc, .slice aA al ac] 118)).alloc (.cells #[.int .i64 op, .int .i64 dst, .bool ar, .int .i64 an, .bool br, .int .i64 bn, .int .i64 fn, .slice xA xl xc] 69) = W0 at *
    refine (Shapes_any op _ Hin.out).mono ?_
    rintro e W1 ⟨rfl, hb1⟩
    unfold shapeV
    have HC1 := HC0.out.below hb1 HC0.out.lt
    have HX1 := HX0.out.below hb1 HX0.out.lt
    have HB1 : Hid (Below w.heap.size w W1) := Lib.hid (HW0.out.trans (hb1.mono HW0.out.size))
    have hlt1 := HC1.lt
    have hlt2 := HX1.lt
    have d0 := HX1.cell 0
    generalize hg2 : w.heap.size + 1 = g2 at *
    obtain ⟨bD, hbD⟩ : ∃ b, hasD op = b := ⟨_, rfl⟩
    obtain ⟨bA', hbA⟩ : ∃ b, hasA op = b := ⟨_, rfl⟩
    obtain ⟨bB, hbB⟩ : ∃ b, hasB op = b := ⟨_, rfl⟩
    have HSh := Lib.hid (And.intro hbD (And.intro hbA hbB))
    rw [hbD, hbA, hbB]
    have HS0 : Hid (Blk (W1.alloc (.cells #[.bool bD, .bool bA', .bool bB] 101)) W1.heap.size 101 #[.bool bD, .bool bA', .bool bB]) := Lib.hid (Blk.new _ _ _)
    have HC2 := Lib.hid (HC1.alloc (.cells #[.bool bD, .bool bA', .bool bB] 101))
    have HX2 := Lib.hid (HX1.alloc (.cells #[.bool bD, .bool bA', .bool bB] 101))
    have HB2 := Lib.hid (HB1.out.alloc HB1.out.size (.cells #[.bool bD, .bool bA', .bool bB] 101))
    clear hb1 hbD hbA hbB HC1 HX1 HC0 HX0 HW0
    go_upto_region 4 with fail
    clear d0
    generalize hg3 : W1.heap.size = g3 at *
    generalize W1.alloc (.cells #[.bool bD, .bool bA', .bool bB] 101) = W2 at *
    have d0 := HX2.out.cell 0
    have hlt3 := HX2.out.lt
    have HQ0 : Hid (Blk (W2.alloc (.cells #[.bool (op == 20)] 4)) W2.heap.size 4 #[.bool (op == 20)]) := Lib.hid (Blk.new _ _ _)
    have HC3 := Lib.hid (HC2.out.alloc (.cells #[.bool (op == 20)] 4))
    have HX3 := Lib.hid (HX2.out.alloc (.cells #[.bool (op == 20)] 4))
    have HS3 := Lib.hid (HS0.out.alloc (.cells #[.bool (op == 20)] 4))
    have HB3 := Lib.hid (HB2.out.alloc HB2.out.size (.cells #[.bool (op == 20)] 4))
    go_upto_region 5 with fail
    clear d0 hlt3 hlt1 hlt2 HC2 HX2 HS0 HB2 HB1 hg2 hg3
    generalize hg4 : W2.heap.size = g4 at *
    generalize W2.alloc (.cells #[.bool (op == 20)] 4) = W at *
    go_cut [62] (fun s wx => s = .bool (formB ⟨op, dst, ⟨ar, an⟩, ⟨br, bn⟩, fn, args⟩) ∧ W = wx)
    case first =>
      have d1 := HX3.out.cell 1
      have d2 := HX3.out.cell 2
      have d3 := HX3.out.cell 3
      have d4 := HX3.out.cell 4
      have d5 := HX3.out.cell 5
      have d6 := HX3.out.cell 6
      have d7 := HX3.out.cell 7
      have s0 := HS3.out.cell 0
      have s1 := HS3.out.cell 1
      have s2 := HS3.out.cell 2
      have q0 := HQ0.out.cell 0
      clear HC3 HX3 HS3 HQ0 HB3 HF HA hg4
      rcases (by have := Hin.out; omega : (op = 1 ∨ op = 16 ∨ op = 17 ∨ op = 18) ∨ (2 ≤ op ∧ op ≤ 15) ∨ op = 19 ∨ op = 20 ∨ op = 21 ∨ op = 22) with h1 | h1 | h1 | h1 | h1 | h1
      · have HH := Lib.hid (has_one h1)
        obtain rfl : bD = true := HSh.out.1.symm.trans HH.out.1
        obtain rfl : bA' = true := HSh.out.2.1.symm.trans HH.out.2.1
        obtain rfl : bB = false := HSh.out.2.2.symm.trans HH.out.2.2
        have HOp : Hid (op ≠ 20) := Lib.hid (by omega)
        have hq : (op == 20) = false := by simp; omega
        rw [hq] at q0
        clear hq h1
        rcases br with _ | _
        · by_cases hn : bn = 0
          · subst hn
            by_cases hfn : fn = 0
            · subst hfn
              by_cases hl : xl = 0
              · subst hl
                have HFo : Hid (formB ⟨op, dst, ⟨ar, an⟩, ⟨false, 0⟩, 0, args⟩ = false) := Lib.hid (by
                  unfold formB
                  refine decide_eq_false ?_
                  rintro (⟨h, h'⟩ | ⟨h, h'⟩ | ⟨h, h'⟩ | ⟨h, h'⟩)
                  · rw [HH.out.1] at h; cases h
                  · rw [HH.out.2.1] at h; cases h
                  · exact h' rfl
                  · rcases h' with h' | h'; exact h' rfl; have h2 : 0 < args.length := h'; rw [Hxl.out] at h2; omega)
                clear Hin HSh HH HOp Hxl
                go_wp2_with fail
                go_meet
                exact ⟨by rw [HFo.out], rfl⟩
              · have hl0 : 0 < xl := Nat.pos_of_ne_zero hl
                clear hl
                have HFo : Hid (formB ⟨op, dst, ⟨ar, an⟩, ⟨false, 0⟩, 0, args⟩ = true) := Lib.hid (decide_eq_true (.inr (.inr (.inr ⟨HOp.out, .inr (by show 0 < args.length; rw [Hxl.out]; exact hl0)⟩))))
                clear Hin HSh HH HOp Hxl
                go_wp2_with fail
                go_meet
                exact ⟨by rw [HFo.out], rfl⟩
            · have hfb : (fn != 0) = true := by simpa using hfn
              have Hfn := Lib.hid hfn
              clear hfn
              have HFo : Hid (formB ⟨op, dst, ⟨ar, an⟩, ⟨false, 0⟩, fn, args⟩ = true) := Lib.hid (decide_eq_true (.inr (.inr (.inr ⟨HOp.out, .inl Hfn.out⟩))))
              clear Hin HSh HH HOp Hxl
              go_wp2_with fail
              go_meet
              exact ⟨by rw [HFo.out], rfl⟩
          · have hnb : (bn == 0) = false := by simpa using hn
            have Hn := Lib.hid hn
            clear hn
            have HFo : Hid (formB ⟨op, dst, ⟨ar, an⟩, ⟨false, bn⟩, fn, args⟩ = true) := Lib.hid (decide_eq_true (.inr (.inr (.inl ⟨HH.out.2.2, (fun h => Hn.out (by cases h; rfl))⟩))))
            clear Hin HSh HH HOp Hxl
            go_wp2_with fail
            go_meet
            exact ⟨by rw [HFo.out], rfl⟩
        · skip
          have HFo : Hid (formB ⟨op, dst, ⟨ar, an⟩, ⟨true, bn⟩, fn, args⟩ = true) := Lib.hid (decide_eq_true (.inr (.inr (.inl ⟨HH.out.2.2, (fun h => by cases h)⟩))))
          clear Hin HSh HH HOp Hxl
          go_wp2_with fail
          go_meet
          exact ⟨by rw [HFo.out], rfl⟩
      · have HH := Lib.hid (has_two h1)
        obtain rfl : bD = true := HSh.out.1.symm.trans HH.out.1
        obtain rfl : bA' = true := HSh.out.2.1.symm.trans HH.out.2.1
        obtain rfl : bB = true := HSh.out.2.2.symm.trans HH.out.2.2
        have HOp : Hid (op ≠ 20) := Lib.hid (by omega)
        have hq : (op == 20) = false := by simp; omega
        rw [hq] at q0
        clear hq h1
        by_cases hfn : fn = 0
        · subst hfn
          by_cases hl : xl = 0
          · subst hl
            have HFo : Hid (formB ⟨op, dst, ⟨ar, an⟩, ⟨br, bn⟩, 0, args⟩ = false) := Lib.hid (by
              unfold formB
              refine decide_eq_false ?_
              rintro (⟨h, h'⟩ | ⟨h, h'⟩ | ⟨h, h'⟩ | ⟨h, h'⟩)
              · rw [HH.out.1] at h; cases h
              · rw [HH.out.2.1] at h; cases h
              · rw [HH.out.2.2] at h; cases h
              · rcases h' with h' | h'; exact h' rfl; have h2 : 0 < args.length := h'; rw [Hxl.out] at h2; omega)
            clear Hin HSh HH HOp Hxl
            go_wp2_with fail
            go_meet
            exact ⟨by rw [HFo.out], rfl⟩
          · have hl0 : 0 < xl := Nat.pos_of_ne_zero hl
            clear hl
            have HFo : Hid (formB ⟨op, dst, ⟨ar, an⟩, ⟨br, bn⟩, 0, args⟩ = true) := Lib.hid (decide_eq_true (.inr (.inr (.inr ⟨HOp.out, .inr (by show 0 < args.length; rw [Hxl.out]; exact hl0)⟩))))
            clear Hin HSh HH HOp Hxl
            go_wp2_with fail
            go_meet
            exact ⟨by rw [HFo.out], rfl⟩
        · have hfb : (fn != 0) = true := by simpa using hfn
          have Hfn := Lib.hid hfn
          clear hfn
          have HFo : Hid (formB ⟨op, dst, ⟨ar, an⟩, ⟨br, bn⟩, fn, args⟩ = true) := Lib.hid (decide_eq_true (.inr (.inr (.inr ⟨HOp.out, .inl Hfn.out⟩))))
          clear Hin HSh HH HOp Hxl
          go_wp2_with fail
          go_meet
          exact ⟨by rw [HFo.out], rfl⟩
      · have HH := Lib.hid (show hasD op = false ∧ hasA op = true ∧ hasB op = true from by rw [h1]; exact has_store)
        obtain rfl : bD = false := HSh.out.1.symm.trans HH.out.1
        obtain rfl : bA' = true := HSh.out.2.1.symm.trans HH.out.2.1
        obtain rfl : bB = true := HSh.out.2.2.symm.trans HH.out.2.2
        have HOp : Hid (op ≠ 20) := Lib.hid (by omega)
        have hq : (op == 20) = false := by simp; omega
        rw [hq] at q0
        clear hq h1
        by_cases hd : dst = -1
        · subst hd
          by_cases hfn : fn = 0
          · subst hfn
            by_cases hl : xl = 0
            · subst hl
              have HFo : Hid (formB ⟨op, -1, ⟨ar, an⟩, ⟨br, bn⟩, 0, args⟩ = false) := Lib.hid (by
                unfold formB
                refine decide_eq_false ?_
                rintro (⟨h, h'⟩ | ⟨h, h'⟩ | ⟨h, h'⟩ | ⟨h, h'⟩)
                · exact h' rfl
                · rw [HH.out.2.1] at h; cases h
                · rw [HH.out.2.2] at h; cases h
                · rcases h' with h' | h'; exact h' rfl; have h2 : 0 < args.length := h'; rw [Hxl.out] at h2; omega)
              clear Hin HSh HH HOp Hxl
              go_wp2_with fail
              go_meet
              exact ⟨by rw [HFo.out], rfl⟩
            · have hl0 : 0 < xl := Nat.pos_of_ne_zero hl
              clear hl
              have HFo : Hid (formB ⟨op, -1, ⟨ar, an⟩, ⟨br, bn⟩, 0, args⟩ = true) := Lib.hid (decide_eq_true (.inr (.inr (.inr ⟨HOp.out, .inr (by show 0 < args.length; rw [Hxl.out]; exact hl0)⟩))))
              clear Hin HSh HH HOp Hxl
              go_wp2_with fail
              go_meet
              exact ⟨by rw [HFo.out], rfl⟩
          · have hfb : (fn != 0) = true := by simpa using hfn
            have Hfn := Lib.hid hfn
            clear hfn
            have HFo : Hid (formB ⟨op, -1, ⟨ar, an⟩, ⟨br, bn⟩, fn, args⟩ = true) := Lib.hid (decide_eq_true (.inr (.inr (.inr ⟨HOp.out, .inl Hfn.out⟩))))
            clear Hin HSh HH HOp Hxl
            go_wp2_with fail
            go_meet
            exact ⟨by rw [HFo.out], rfl⟩
        · have hdb : (dst != -1) = true := by simpa using hd
          have Hd := Lib.hid hd
          clear hd
          have HFo : Hid (formB ⟨op, dst, ⟨ar, an⟩, ⟨br, bn⟩, fn, args⟩ = true) := Lib.hid (decide_eq_true (.inl ⟨HH.out.1, Hd.out⟩))
          clear Hin HSh HH HOp Hxl
          go_wp2_with fail
          go_meet
          exact ⟨by rw [HFo.out], rfl⟩
      · have HH := Lib.hid (show hasD op = true ∧ hasA op = false ∧ hasB op = false from by rw [h1]; exact has_call)
        obtain rfl : bD = true := HSh.out.1.symm.trans HH.out.1
        obtain rfl : bA' = false := HSh.out.2.1.symm.trans HH.out.2.1
        obtain rfl : bB = false := HSh.out.2.2.symm.trans HH.out.2.2
        have HOp : Hid (op = 20) := Lib.hid h1
        have hq : (op == 20) = true := by simpa using h1
        rw [hq] at q0
        clear hq h1
        rcases ar with _ | _
        · by_cases hn : an = 0
          · subst hn
            rcases br with _ | _
            · by_cases hn : bn = 0
              · subst hn
                have HFo : Hid (formB ⟨op, dst, ⟨false, 0⟩, ⟨false, 0⟩, fn, args⟩ = false) := Lib.hid (by
                  unfold formB
                  refine decide_eq_false ?_
                  rintro (⟨h, h'⟩ | ⟨h, h'⟩ | ⟨h, h'⟩ | ⟨h, h'⟩)
                  · rw [HH.out.1] at h; cases h
                  · exact h' rfl
                  · exact h' rfl
                  · exact h HOp.out)
                clear Hin HSh HH HOp Hxl
                go_wp2_with fail
                go_meet
                exact ⟨by rw [HFo.out], rfl⟩
              · have hnb : (bn == 0) = false := by simpa using hn
                have Hn := Lib.hid hn
                clear hn
                have HFo : Hid (formB ⟨op, dst, ⟨false, 0⟩, ⟨false, bn⟩, fn, args⟩ = true) := Lib.hid (decide_eq_true (.inr (.inr (.inl ⟨HH.out.2.2, (fun h => Hn.out (by cases h; rfl))⟩))))
                clear Hin HSh HH HOp Hxl
                go_wp2_with fail
                go_meet
                exact ⟨by rw [HFo.out], rfl⟩
            · skip
              have HFo : Hid (formB ⟨op, dst, ⟨false, 0⟩, ⟨true, bn⟩, fn, args⟩ = true) := Lib.hid (decide_eq_true (.inr (.inr (.inl ⟨HH.out.2.2, (fun h => by cases h)⟩))))
              clear Hin HSh HH HOp Hxl
              go_wp2_with fail
              go_meet
              exact ⟨by rw [HFo.out], rfl⟩
          · have hnb : (an == 0) = false := by simpa using hn
            have Hn := Lib.hid hn
            clear hn
            have HFo : Hid (formB ⟨op, dst, ⟨false, an⟩, ⟨br, bn⟩, fn, args⟩ = true) := Lib.hid (decide_eq_true (.inr (.inl ⟨HH.out.2.1, (fun h => Hn.out (by cases h; rfl))⟩)))
            clear Hin HSh HH HOp Hxl
            go_wp2_with fail
            go_meet
            exact ⟨by rw [HFo.out], rfl⟩
        · skip
          have HFo : Hid (formB ⟨op, dst, ⟨true, an⟩, ⟨br, bn⟩, fn, args⟩ = true) := Lib.hid (decide_eq_true (.inr (.inl ⟨HH.out.2.1, (fun h => by cases h)⟩)))
          clear Hin HSh HH HOp Hxl
          go_wp2_with fail
          go_meet
          exact ⟨by rw [HFo.out], rfl⟩
      · have HH := Lib.hid (show hasD op = true ∧ hasA op = false ∧ hasB op = false from by rw [h1]; exact has_read)
        obtain rfl : bD = true := HSh.out.1.symm.trans HH.out.1
        obtain rfl : bA' = false := HSh.out.2.1.symm.trans HH.out.2.1
        obtain rfl : bB = false := HSh.out.2.2.symm.trans HH.out.2.2
        have HOp : Hid (op ≠ 20) := Lib.hid (by omega)
        have hq : (op == 20) = false := by simp; omega
        rw [hq] at q0
        clear hq h1
        rcases ar with _ | _
        · by_cases hn : an = 0
          · subst hn
            rcases br with _ | _
            · by_cases hn : bn = 0
              · subst hn
                by_cases hfn : fn = 0
                · subst hfn
                  by_cases hl : xl = 0
                  · subst hl
                    have HFo : Hid (formB ⟨op, dst, ⟨false, 0⟩, ⟨false, 0⟩, 0, args⟩ = false) := Lib.hid (by
                      unfold formB
                      refine decide_eq_false ?_
                      rintro (⟨h, h'⟩ | ⟨h, h'⟩ | ⟨h, h'⟩ | ⟨h, h'⟩)
                      · rw [HH.out.1] at h; cases h
                      · exact h' rfl
                      · exact h' rfl
                      · rcases h' with h' | h'; exact h' rfl; have h2 : 0 < args.length := h'; rw [Hxl.out] at h2; omega)
                    clear Hin HSh HH HOp Hxl
                    go_wp2_with fail
                    go_meet
                    exact ⟨by rw [HFo.out], rfl⟩
                  · have hl0 : 0 < xl := Nat.pos_of_ne_zero hl
                    clear hl
                    have HFo : Hid (formB ⟨op, dst, ⟨false, 0⟩, ⟨false, 0⟩, 0, args⟩ = true) := Lib.hid (decide_eq_true (.inr (.inr (.inr ⟨HOp.out, .inr (by show 0 < args.length; rw [Hxl.out]; exact hl0)⟩))))
                    clear Hin HSh HH HOp Hxl
                    go_wp2_with fail
                    go_meet
                    exact ⟨by rw [HFo.out], rfl⟩
                · have hfb : (fn != 0) = true := by simpa using hfn
                  have Hfn := Lib.hid hfn
                  clear hfn
                  have HFo : Hid (formB ⟨op, dst, ⟨false, 0⟩, ⟨false, 0⟩, fn, args⟩ = true) := Lib.hid (decide_eq_true (.inr (.inr (.inr ⟨HOp.out, .inl Hfn.out⟩))))
                  clear Hin HSh HH HOp Hxl
                  go_wp2_with fail
                  go_meet
                  exact ⟨by rw [HFo.out], rfl⟩
              · have hnb : (bn == 0) = false := by simpa using hn
                have Hn := Lib.hid hn
                clear hn
                have HFo : Hid (formB ⟨op, dst, ⟨false, 0⟩, ⟨false, bn⟩, fn, args⟩ = true) := Lib.hid (decide_eq_true (.inr (.inr (.inl ⟨HH.out.2.2, (fun h => Hn.out (by cases h; rfl))⟩))))
                clear Hin HSh HH HOp Hxl
                go_wp2_with fail
                go_meet
                exact ⟨by rw [HFo.out], rfl⟩
            · skip
              have HFo : Hid (formB ⟨op, dst, ⟨false, 0⟩, ⟨true, bn⟩, fn, args⟩ = true) := Lib.hid (decide_eq_true (.inr (.inr (.inl ⟨HH.out.2.2, (fun h => by cases h)⟩))))
              clear Hin HSh HH HOp Hxl
              go_wp2_with fail
              go_meet
              exact ⟨by rw [HFo.out], rfl⟩
          · have hnb : (an == 0) = false := by simpa using hn
            have Hn := Lib.hid hn
            clear hn
            have HFo : Hid (formB ⟨op, dst, ⟨false, an⟩, ⟨br, bn⟩, fn, args⟩ = true) := Lib.hid (decide_eq_true (.inr (.inl ⟨HH.out.2.1, (fun h => Hn.out (by cases h; rfl))⟩)))
            clear Hin HSh HH HOp Hxl
            go_wp2_with fail
            go_meet
            exact ⟨by rw [HFo.out], rfl⟩
        · skip
          have HFo : Hid (formB ⟨op, dst, ⟨true, an⟩, ⟨br, bn⟩, fn, args⟩ = true) := Lib.hid (decide_eq_true (.inr (.inl ⟨HH.out.2.1, (fun h => by cases h)⟩)))
          clear Hin HSh HH HOp Hxl
          go_wp2_with fail
          go_meet
          exact ⟨by rw [HFo.out], rfl⟩
      · have HH := Lib.hid (show hasD op = false ∧ hasA op = true ∧ hasB op = false from by rw [h1]; exact has_print)
        obtain rfl : bD = false := HSh.out.1.symm.trans HH.out.1
        obtain rfl : bA' = true := HSh.out.2.1.symm.trans HH.out.2.1
        obtain rfl : bB = false := HSh.out.2.2.symm.trans HH.out.2.2
        have HOp : Hid (op ≠ 20) := Lib.hid (by omega)
        have hq : (op == 20) = false := by simp; omega
        rw [hq] at q0
        clear hq h1
        by_cases hd : dst = -1
        · subst hd
          rcases br with _ | _
          · by_cases hn : bn = 0
            · subst hn
              by_cases hfn : fn = 0
              · subst hfn
                by_cases hl : xl = 0
                · subst hl
                  have HFo : Hid (formB ⟨op, -1, ⟨ar, an⟩, ⟨false, 0⟩, 0, args⟩ = false) := Lib.hid (by
                    unfold formB
                    refine decide_eq_false ?_
                    rintro (⟨h, h'⟩ | ⟨h, h'⟩ | ⟨h, h'⟩ | ⟨h, h'⟩)
                    · exact h' rfl
                    · rw [HH.out.2.1] at h; cases h
                    · exact h' rfl
                    · rcases h' with h' | h'; exact h' rfl; have h2 : 0 < args.length := h'; rw [Hxl.out] at h2; omega)
                  clear Hin HSh HH HOp Hxl
                  go_wp2_with fail
                  go_meet
                  exact ⟨by rw [HFo.out], rfl⟩
                · have hl0 : 0 < xl := Nat.pos_of_ne_zero hl
                  clear hl
                  have HFo : Hid (formB ⟨op, -1, ⟨ar, an⟩, ⟨false, 0⟩, 0, args⟩ = true) := Lib.hid (decide_eq_true (.inr (.inr (.inr ⟨HOp.out, .inr (by show 0 < args.length; rw [Hxl.out]; exact hl0)⟩))))
                  clear Hin HSh HH HOp Hxl
                  go_wp2_with fail
                  go_meet
                  exact ⟨by rw [HFo.out], rfl⟩
              · have hfb : (fn != 0) = true := by simpa using hfn
                have Hfn := Lib.hid hfn
                clear hfn
                have HFo : Hid (formB ⟨op, -1, ⟨ar, an⟩, ⟨false, 0⟩, fn, args⟩ = true) := Lib.hid (decide_eq_true (.inr (.inr (.inr ⟨HOp.out, .inl Hfn.out⟩))))
                clear Hin HSh HH HOp Hxl
                go_wp2_with fail
                go_meet
                exact ⟨by rw [HFo.out], rfl⟩
            · have hnb : (bn == 0) = false := by simpa using hn
              have Hn := Lib.hid hn
              clear hn
              have HFo : Hid (formB ⟨op, -1, ⟨ar, an⟩, ⟨false, bn⟩, fn, args⟩ = true) := Lib.hid (decide_eq_true (.inr (.inr (.inl ⟨HH.out.2.2, (fun h => Hn.out (by cases h; rfl))⟩))))
              clear Hin HSh HH HOp Hxl
              go_wp2_with fail
              go_meet
              exact ⟨by rw [HFo.out], rfl⟩
          · skip
            have HFo : Hid (formB ⟨op, -1, ⟨ar, an⟩, ⟨true, bn⟩, fn, args⟩ = true) := Lib.hid (decide_eq_true (.inr (.inr (.inl ⟨HH.out.2.2, (fun h => by cases h)⟩))))
            clear Hin HSh HH HOp Hxl
            go_wp2_with fail
            go_meet
            exact ⟨by rw [HFo.out], rfl⟩
        · have hdb : (dst != -1) = true := by simpa using hd
          have Hd := Lib.hid hd
          clear hd
          have HFo : Hid (formB ⟨op, dst, ⟨ar, an⟩, ⟨br, bn⟩, fn, args⟩ = true) := Lib.hid (decide_eq_true (.inl ⟨HH.out.1, Hd.out⟩))
          clear Hin HSh HH HOp Hxl
          go_wp2_with fail
          go_meet
          exact ⟨by rw [HFo.out], rfl⟩
    case rest =>
      obtain ⟨rfl, rfl⟩ := hcut
      cases hfo : formB ⟨op, dst, ⟨ar, an⟩, ⟨br, bn⟩, fn, args⟩
      · have HFo := Lib.hid hfo
        clear hfo
        go_upto_region 7 with fail
        go_cut [73] (fun s wx => s = .bool (needD ⟨op, dst, ⟨ar, an⟩, ⟨br, bn⟩, fn, args⟩) ∧ W = wx)
        case first =>
          have d1 := HX3.out.cell 1
          have s0 := HS3.out.cell 0
          have q0 := HQ0.out.cell 0
          have hsd := HSh.out.1
          clear HC3 HX3 HS3 HQ0 HB3 HF HA hg4
          cases bD
          · have HN : Hid (needD ⟨op, dst, ⟨ar, an⟩, ⟨br, bn⟩, fn, args⟩ = false) := Lib.hid (by unfold needD; simp [hsd])
            clear hsd
            go_wp2_with fail
            go_meet
            exact ⟨by rw [HN.out], rfl⟩
          · by_cases h20 : op = 20
            · subst h20
              simp only [BEq.rfl] at q0
              by_cases hd : dst = -1
              · subst hd
                have HN : Hid (needD ⟨20, -1, ⟨ar, an⟩, ⟨br, bn⟩, fn, args⟩ = false) := Lib.hid (by unfold needD; simp)
                clear hsd
                go_wp2_with fail
                go_meet
                exact ⟨by rw [HN.out], rfl⟩
              · have HN : Hid (needD ⟨20, dst, ⟨ar, an⟩, ⟨br, bn⟩, fn, args⟩ = true) := Lib.hid (by unfold needD; simp [hd, hsd])
                have hdb : (dst == -1) = false := by simpa using hd
                clear hsd hd
                go_wp2_with fail
                go_meet
                exact ⟨by rw [HN.out], rfl⟩
            · have HN : Hid (needD ⟨op, dst, ⟨ar, an⟩, ⟨br, bn⟩, fn, args⟩ = true) := Lib.hid (by unfold needD; simp [h20, hsd])
              have hb20 : (op == 20) = false := by simpa using h20
              rw [hb20] at q0
              clear hsd h20
              go_wp2_with fail
              go_meet
              exact ⟨by rw [HN.out], rfl⟩
        case rest =>
          obtain ⟨rfl, rfl⟩ := hcut
          cases hne : needD ⟨op, dst, ⟨ar, an⟩, ⟨br, bn⟩, fn, args⟩
          · have HNe := Lib.hid hne
            clear hne
            have HE : Hid (insE (fs.map FunU.params) regs ⟨op, dst, ⟨ar, an⟩, ⟨br, bn⟩, fn, args⟩ = first3 (valE regs ⟨ar, an⟩) (valE regs ⟨br, bn⟩) (argE (fs.map FunU.params) regs ⟨op, dst, ⟨ar, an⟩, ⟨br, bn⟩, fn, args⟩)) := Lib.hid (insE_t Hin.out HFo.out (fun h => absurd (HNe.out.symm.trans h) (by simp)))
            have hgC := HC3.out.lt
            have hgX := HX3.out.lt
            have hgQ := HQ0.out.lt
            go_wp2_with fail
            refine (first_any 104 105 106 #[.pointer (some ⟨w.heap.size, 0, none⟩), .pointer (some ⟨g2, 0, none⟩)] #[.pointer (some ⟨w.heap.size, 0, none⟩), .pointer (some ⟨g2, 0, none⟩)] #[.pointer (some ⟨g4, 0, none⟩), .pointer (some ⟨g2, 0, none⟩), .pointer (some ⟨w.heap.size, 0, none⟩)] (valE regs ⟨ar, an⟩) (valE regs ⟨br, bn⟩) (argE (fs.map FunU.params) regs ⟨op, dst, ⟨ar, an⟩, ⟨br, bn⟩, fn, args⟩) _ _ ((Blk.new _ _ _).cell 0) ((Blk.new _ _ _).cell 1) ((Blk.new _ _ _).cell 2) (Blk.new _ _ _).lt (fun a W => MuLone.run_callFunc_enter Tryz.func104 (by kernel_rfl) rfl a W) (fun a W => MuLone.run_callFunc_enter Tryz.func105 (by kernel_rfl) rfl a W) (fun a W => MuLone.run_callFunc_enter Tryz.func106 (by kernel_rfl) rfl a W) (fun V hV => ?_) (fun V hV => ?_) (fun V hV => ?_)).mono ?_
            · exact insA_any gA fA bA aA gl gc fl fc bl bc al ac nm ps regs w.heap.size g2 xA xl xc ⟨op, dst, ⟨ar, an⟩, ⟨br, bn⟩, fn, args⟩ V Hr.out ((HC3.out.alloc _).below hV (HC3.out.alloc _).lt) ((HX3.out.alloc _).below hV (HX3.out.alloc _).lt)
            · exact insB_any gA fA bA aA gl gc fl fc bl bc al ac nm ps regs w.heap.size g2 xA xl xc ⟨op, dst, ⟨ar, an⟩, ⟨br, bn⟩, fn, args⟩ V Hr.out ((HC3.out.alloc _).below hV (HC3.out.alloc _).lt) ((HX3.out.alloc _).below hV (HX3.out.alloc _).lt)
            · have hbV := (HB3.out.alloc HB3.out.size _).trans (hV.mono (HB3.out.alloc HB3.out.size _).size)
              exact insC_any gA fA bA aA gl gc fl fc bl bc al ac nm ps regs g4 w.heap.size g2 xA xl xc ⟨op, dst, ⟨ar, an⟩, ⟨br, bn⟩, fn, args⟩ fs V Hr.out ((HC3.out.alloc _).below hV (HC3.out.alloc _).lt) ((HX3.out.alloc _).below hV (HX3.out.alloc _).lt) (((HQ0.out.alloc _).below hV (HQ0.out.alloc _).lt).cell 0) (HF.out.move hbV.size (kept_of hbV (Nat.le_refl _))) (HA.out.move hbV.size (kept_of hbV (Nat.le_refl _))) hfl
            rintro e W9 ⟨rfl, hb9⟩
            have HB9 : Hid (Below w.heap.size w W9) := Lib.hid ((HB3.out.alloc HB3.out.size _).trans (hb9.mono (HB3.out.alloc HB3.out.size _).size))
            clear hb9
            go_wp2_with fail
            go_ret
            exact ⟨ret_int HE.out.symm, HB9.out⟩
          · have HNe := Lib.hid hne
            have d1 := HX3.out.cell 1
            have c0 := HC3.out.cell 0
            have c1 := HC3.out.cell 1
            have c2 := HC3.out.cell 2
            have c3 := HC3.out.cell 3
            have c4 := HC3.out.cell 4
            have c5 := HC3.out.cell 5
            have c6 := HC3.out.cell 6
            clear hne
            go_wp2_with fail
            refine (dst_any gA fA bA aA gl gc fl fc bl bc al ac nm ps regs dst _ Hr.out).mono ?_
            rintro e W5 ⟨rfl, hb5⟩
            have HC3 := Lib.hid (HC3.out.below hb5 HC3.out.lt)
            have HX3 := Lib.hid (HX3.out.below hb5 HX3.out.lt)
            have HQ0 := Lib.hid (HQ0.out.below hb5 HQ0.out.lt)
            have HB3 := Lib.hid (HB3.out.trans (hb5.mono HB3.out.size))
            clear hb5 c0 c1 c2 c3 c4 c5 c6 d1
            by_cases he : dstE regs dst = 0
            · have HE : Hid (insE (fs.map FunU.params) regs ⟨op, dst, ⟨ar, an⟩, ⟨br, bn⟩, fn, args⟩ = first3 (valE regs ⟨ar, an⟩) (valE regs ⟨br, bn⟩) (argE (fs.map FunU.params) regs ⟨op, dst, ⟨ar, an⟩, ⟨br, bn⟩, fn, args⟩)) := Lib.hid (insE_t Hin.out HFo.out (fun _ => he))
              rw [he]
              have hgC := HC3.out.lt
              have hgX := HX3.out.lt
              have hgQ := HQ0.out.lt
              go_wp2_with fail
              refine (first_any 104 105 106 #[.pointer (some ⟨w.heap.size, 0, none⟩), .pointer (some ⟨g2, 0, none⟩)] #[.pointer (some ⟨w.heap.size, 0, none⟩), .pointer (some ⟨g2, 0, none⟩)] #[.pointer (some ⟨g4, 0, none⟩), .pointer (some ⟨g2, 0, none⟩), .pointer (some ⟨w.heap.size, 0, none⟩)] (valE regs ⟨ar, an⟩) (valE regs ⟨br, bn⟩) (argE (fs.map FunU.params) regs ⟨op, dst, ⟨ar, an⟩, ⟨br, bn⟩, fn, args⟩) _ _ ((Blk.new _ _ _).cell 0) ((Blk.new _ _ _).cell 1) ((Blk.new _ _ _).cell 2) (Blk.new _ _ _).lt (fun a W => MuLone.run_callFunc_enter Tryz.func104 (by kernel_rfl) rfl a W) (fun a W => MuLone.run_callFunc_enter Tryz.func105 (by kernel_rfl) rfl a W) (fun a W => MuLone.run_callFunc_enter Tryz.func106 (by kernel_rfl) rfl a W) (fun V hV => ?_) (fun V hV => ?_) (fun V hV => ?_)).mono ?_
              · exact insA_any gA fA bA aA gl gc fl fc bl bc al ac nm ps regs w.heap.size g2 xA xl xc ⟨op, dst, ⟨ar, an⟩, ⟨br, bn⟩, fn, args⟩ V Hr.out ((HC3.out.alloc _).below hV (HC3.out.alloc _).lt) ((HX3.out.alloc _).below hV (HX3.out.alloc _).lt)
              · exact insB_any gA fA bA aA gl gc fl fc bl bc al ac nm ps regs w.heap.size g2 xA xl xc ⟨op, dst, ⟨ar, an⟩, ⟨br, bn⟩, fn, args⟩ V Hr.out ((HC3.out.alloc _).below hV (HC3.out.alloc _).lt) ((HX3.out.alloc _).below hV (HX3.out.alloc _).lt)
              · have hbV := (HB3.out.alloc HB3.out.size _).trans (hV.mono (HB3.out.alloc HB3.out.size _).size)
                exact insC_any gA fA bA aA gl gc fl fc bl bc al ac nm ps regs g4 w.heap.size g2 xA xl xc ⟨op, dst, ⟨ar, an⟩, ⟨br, bn⟩, fn, args⟩ fs V Hr.out ((HC3.out.alloc _).below hV (HC3.out.alloc _).lt) ((HX3.out.alloc _).below hV (HX3.out.alloc _).lt) (((HQ0.out.alloc _).below hV (HQ0.out.alloc _).lt).cell 0) (HF.out.move hbV.size (kept_of hbV (Nat.le_refl _))) (HA.out.move hbV.size (kept_of hbV (Nat.le_refl _))) hfl
              rintro e W9 ⟨rfl, hb9⟩
              have HB9 : Hid (Below w.heap.size w W9) := Lib.hid ((HB3.out.alloc HB3.out.size _).trans (hb9.mono (HB3.out.alloc HB3.out.size _).size))
              clear hb9
              go_wp2_with fail
              go_ret
              exact ⟨ret_int HE.out.symm, HB9.out⟩
            · have HE : Hid (insE (fs.map FunU.params) regs ⟨op, dst, ⟨ar, an⟩, ⟨br, bn⟩, fn, args⟩ = dstE regs dst) := Lib.hid (insE_d Hin.out HFo.out HNe.out he)
              have hb : (dstE regs dst != 0) = true := by simpa using he
              clear he
              generalize dstE regs dst = ev at *
              go_wp2_with fail
              go_ret
              exact ⟨ret_int HE.out.symm, HB3.out⟩
      · have HE : Hid (insE (fs.map FunU.params) regs ⟨op, dst, ⟨ar, an⟩, ⟨br, bn⟩, fn, args⟩ = 5) := Lib.hid (insE_5 Hin.out hfo)
        clear hfo
        go_wp2_with fail
        go_ret
        exact ⟨ret_int HE.out.symm, HB3.out⟩
  · have HE : Hid (insE (fs.map FunU.params) regs ⟨op, dst, ⟨ar, an⟩, ⟨br, bn⟩, fn, args⟩ = 4) := Lib.hid (insE_4 (decide_eq_false hin))
    rw [decide_eq_false hin] at HW
    clear hin
    go_enter Tryz.func87, Tryz.ntmps87
    go_wp2_with fail
    refine (HW.out _).mono ?_
    rintro e w1 ⟨rfl, rfl⟩
    go_wp2_with fail
    go_ret
    exact ⟨ret_int HE.out.symm, ((Below.refl _ _).alloc (Nat.le_refl _) _).alloc (by simp) _⟩
end Go.Proofs.YtiknhfbkphoceaaGreatDoor
