/-
  The closures of the checker's ins.
  Conditions: as the theorems say.
-/
import Derived.Test.YtgnkkgbjcodihaaDoorUnE
namespace Go.Proofs.YtgnkkgbjcodihaaDoor
open Go.RowKit

set_option maxRecDepth 100000 in
set_option maxHeartbeats 1000000 in
theorem insA_any (gA fA bA aA : Option Addr) (gl gc fl fc bl bc al ac : Nat) (nm : ByteArray) (ps regs : Int) (g1 g2 : Nat) (xA : Option Addr) (xl xc : Nat) (x : InsU) (w : World) (hr : 0 ≤ regs ∧ regs ≤ 100) (hC : Blk w g1 104 #[.slice gA gl gc, .slice fA fl fc, .string nm, .int .i64 ps, .int .i64 regs, .slice bA bl bc, .slice aA al ac]) (hX : Blk w g2 47 #[.int .i64 x.op, .int .i64 x.dst, .bool x.a.reg, .int .i64 x.a.n, .bool x.b.reg, .int .i64 x.b.n, .int .i64 x.fn, .slice xA xl xc]) :
    Calls Tryd.prog 96 #[.pointer (some ⟨g1, 0, none⟩), .pointer (some ⟨g2, 0, none⟩)] w fun e w' => e = .returned (.int .i64 (valE regs x.a)) ∧ Below w.heap.size w w' := by
  have HV := Lib.hid (val_any gA fA bA aA gl gc fl fc bl bc al ac nm ps regs x.a w hr)
  have c0 := hC.cell 0
  have c1 := hC.cell 1
  have c2 := hC.cell 2
  have c3 := hC.cell 3
  have c4 := hC.cell 4
  have c5 := hC.cell 5
  have c6 := hC.cell 6
  have d0 := hX.cell 2
  have d1 := hX.cell 3
  clear hC hX hr
  go_enter Tryd.func96, Tryd.ntmps96
  go_wp2_with fail
  refine HV.out.mono ?_
  rintro e w1 ⟨rfl, hb1⟩
  go_wp2_with fail
  go_ret
  exact ⟨rfl, hb1⟩
set_option maxRecDepth 100000 in
set_option maxHeartbeats 1000000 in
theorem insB_any (gA fA bA aA : Option Addr) (gl gc fl fc bl bc al ac : Nat) (nm : ByteArray) (ps regs : Int) (g1 g2 : Nat) (xA : Option Addr) (xl xc : Nat) (x : InsU) (w : World) (hr : 0 ≤ regs ∧ regs ≤ 100) (hC : Blk w g1 104 #[.slice gA gl gc, .slice fA fl fc, .string nm, .int .i64 ps, .int .i64 regs, .slice bA bl bc, .slice aA al ac]) (hX : Blk w g2 47 #[.int .i64 x.op, .int .i64 x.dst, .bool x.a.reg, .int .i64 x.a.n, .bool x.b.reg, .int .i64 x.b.n, .int .i64 x.fn, .slice xA xl xc]) :
    Calls Tryd.prog 97 #[.pointer (some ⟨g1, 0, none⟩), .pointer (some ⟨g2, 0, none⟩)] w fun e w' => e = .returned (.int .i64 (valE regs x.b)) ∧ Below w.heap.size w w' := by
  have HV := Lib.hid (val_any gA fA bA aA gl gc fl fc bl bc al ac nm ps regs x.b w hr)
  have c0 := hC.cell 0
  have c1 := hC.cell 1
  have c2 := hC.cell 2
  have c3 := hC.cell 3
  have c4 := hC.cell 4
  have c5 := hC.cell 5
  have c6 := hC.cell 6
  have d0 := hX.cell 4
  have d1 := hX.cell 5
  clear hC hX hr
  go_enter Tryd.func97, Tryd.ntmps97
  go_wp2_with fail
  refine HV.out.mono ?_
  rintro e w1 ⟨rfl, hb1⟩
  go_wp2_with fail
  go_ret
  exact ⟨rfl, hb1⟩
def argBad (regs : Int) (args : List Opd) (k : Nat) : Int := badOf (fun _ v => valE regs v) args k
theorem argE_hit {ps : List Int} {regs : Int} {x : InsU} {i k : Nat} {p : Int} {v : Opd} (h20 : x.op = 20) (hfn : x.fn = (i : Int)) (hp : ps[i]? = some p) (hl : (x.args.length : Int) = p) (hk : x.args[k]? = some v) (h : valE regs v ≠ 0) (hb : ∀ j, j < k → argBad regs x.args j = 0) : argE ps regs x = valE regs v := by
  have hlt := (List.getElem?_eq_some_iff.1 hp).1
  unfold argE
  rw [if_neg (by simpa using h20), if_neg (by rw [hfn]; unfold inB; simp; omega), if_neg (by rw [hfn, List.getD_eq_getElem?_getD, Int.toNat_natCast, hp]; simpa using hl)]
  exact firstE_hit hk h hb
theorem argE_ok {ps : List Int} {regs : Int} {x : InsU} {i : Nat} {p : Int} (h20 : x.op = 20) (hfn : x.fn = (i : Int)) (hp : ps[i]? = some p) (hl : (x.args.length : Int) = p) (hb : ∀ j, j < x.args.length → argBad regs x.args j = 0) : argE ps regs x = 0 := by
  have hlt := (List.getElem?_eq_some_iff.1 hp).1
  unfold argE
  rw [if_neg (by simpa using h20), if_neg (by rw [hfn]; unfold inB; simp; omega), if_neg (by rw [hfn, List.getD_eq_getElem?_getD, Int.toNat_natCast, hp]; simpa using hl)]
  exact firstE_ok hb
theorem argE_size {ps : List Int} {regs : Int} {x : InsU} {i : Nat} {p : Int} (h20 : x.op = 20) (hfn : x.fn = (i : Int)) (hp : ps[i]? = some p) (hl : (x.args.length : Int) ≠ p) : argE ps regs x = 9 := by
  have hlt := (List.getElem?_eq_some_iff.1 hp).1
  unfold argE
  rw [if_neg (by simpa using h20), if_neg (by rw [hfn]; unfold inB; simp; omega), if_pos (by rw [hfn, List.getD_eq_getElem?_getD, Int.toNat_natCast, hp]; simpa using hl)]
theorem argE_far {ps : List Int} {regs : Int} {x : InsU} (h20 : x.op = 20) (h : decide (0 ≤ x.fn ∧ x.fn ≤ (ps.length : Int) - 1) = false) : argE ps regs x = 3 := by
  unfold argE
  rw [if_neg (by simpa using h20), if_pos (by unfold inB; exact h)]
theorem argE_no {ps : List Int} {regs : Int} {x : InsU} (h20 : x.op ≠ 20) : argE ps regs x = 0 := by
  unfold argE
  rw [if_pos h20]
theorem FunsAt.params {w : World} {B : Nat} {A : Option Addr} {l c : Nat} {fs : List FunU} (h : FunsAt w B (.slice A l c) fs) {i : Nat} (hi : i < l) : ∃ b off f, A = some ⟨b, off, none⟩ ∧ b < B ∧ fs[i]? = some f ∧ (fs.map FunU.params)[i]? = some f.params ∧ w.cell? ⟨b, off + i * 4 + 1, none⟩ = some (.int .i64 f.params) := by
  have hl := SlAt.len h
  obtain ⟨f, hf⟩ : ∃ f, fs[i]? = some f := ⟨fs[i]'(by omega), List.getElem?_eq_getElem _⟩
  obtain ⟨b, off, e, hb, us, ⟨bv, rfl, _⟩, hc⟩ := SlAt.at h hf
  exact ⟨b, off, f, e, hb, hf, by rw [List.getElem?_map, hf]; rfl, hc 1 _ rfl⟩
set_option maxRecDepth 100000 in
set_option maxHeartbeats 2000000 in
theorem insC_any (gA fA bA aA : Option Addr) (gl gc fl fc bl bc al ac : Nat) (nm : ByteArray) (ps regs : Int) (g0 g1 g2 : Nat) (xA : Option Addr) (xl xc : Nat) (x : InsU) (fs : List FunU) (w : World) (hr : 0 ≤ regs ∧ regs ≤ 100) (hC : Blk w g1 104 #[.slice gA gl gc, .slice fA fl fc, .string nm, .int .i64 ps, .int .i64 regs, .slice bA bl bc, .slice aA al ac]) (hX : Blk w g2 47 #[.int .i64 x.op, .int .i64 x.dst, .bool x.a.reg, .int .i64 x.a.n, .bool x.b.reg, .int .i64 x.b.n, .int .i64 x.fn, .slice xA xl xc])
    (h0 : w.cell? ⟨g0, 0, none⟩ = some (.bool (decide (x.op = 20)))) (hf : FunsAt w w.heap.size (.slice fA fl fc) fs) (ha : OpdsAt w w.heap.size (.slice xA xl xc) x.args) (hfl : fl ≤ 9223372036854775807) :
    Calls Tryd.prog 98 #[.pointer (some ⟨g0, 0, none⟩), .pointer (some ⟨g2, 0, none⟩), .pointer (some ⟨g1, 0, none⟩)] w fun e w' => e = .returned (.int .i64 (argE (fs.map FunU.params) regs x)) ∧ Below w.heap.size w w' := by
  by_cases h20 : x.op = 20
  · rw [decide_eq_true h20] at h0
    have Hr := Lib.hid hr
    have HCb := Lib.hid hC
    have HA := Lib.hid ha
    have hxl : x.args.length = xl := SlAt.len ha
    have hx63 : xl ≤ 9223372036854775807 := by
      obtain ⟨A', c', e, h1, h2⟩ := SlAt.form ha
      omega
    have Hxl := Lib.hid hxl
    have hflen : fs.length = fl := SlAt.len hf
    have HW := Lib.hid (Within_any x.fn 0 ((fl : Int) - 1))
    have c1 := hC.cell 1
    have d5 := hX.cell 6
    have d6 := hX.cell 7
    have H20 := Lib.hid h20
    by_cases hin : 0 ≤ x.fn ∧ x.fn ≤ (fl : Int) - 1
    · have hq : decide (0 ≤ x.fn ∧ x.fn ≤ (fl : Int) - 1) = true := decide_eq_true hin
      rw [hq] at HW
      obtain ⟨i, hi⟩ : ∃ i : Nat, x.fn = (i : Int) := ⟨x.fn.toNat, by omega⟩
      have hil : i < fl := by omega
      obtain ⟨fb, foff, f, rfl, hfb, hfi, hpi, cp⟩ := hf.params hil
      have Hp := Lib.hid hpi
      obtain ⟨op, dst, xa, xb, fn, args⟩ := x
      simp only at hi d5 d6 hxl
      subst hi
      generalize f.params = p at *
      have hi0 : (0 : Int) ≤ (i : Int) := Int.natCast_nonneg i
      have hi1 : (i : Int) < (fl : Int) := by omega
      clear hq hin h20 hC hX hf ha hfi hpi hr hflen hxl
      go_enter Tryd.func98, Tryd.ntmps98
      go_wp2_with fail
      refine (HW.out _).mono ?_
      rintro e w1 ⟨rfl, rfl⟩
      by_cases hlp : (xl : Int) = p
      · have HLp : Hid ((args.length : Int) = p) := Lib.hid (by rw [show args.length = xl from Hxl.out]; exact hlp)
        subst hlp
        go_wp2_with fail
        go_quiet (fail)
        have HB0 : Hid (Below w.heap.size w (w.drewN nq)) := Lib.hid (below_drewN (Below.refl _ _) _)
        have e6 : (w.drewN nq).cell? ⟨g2, 7, none⟩ = some (.slice xA xl xc) := d6
        generalize w.drewN nq = W at *
        go_wp2_with fail
        go_loopw [36] (fun i wr => ∃ k : Nat, k ≤ xl ∧ i = .int .i64 k ∧ Hid (∀ j, j < k → argBad regs args j = 0) ∧ Hid (Below w.heap.size w wr)) (fun i _ => xl - (intOf i).toNat)
        case atStart => exact ⟨0, Nat.zero_le _, rfl, Lib.hid (fun j h => absurd h (Nat.not_lt_zero j)), HB0⟩
        case round =>
          obtain ⟨k, hk, rfl, HN, HB⟩ := hrel
          by_cases hlt : k < xl
          · obtain ⟨⟨vr, vn⟩, hv⟩ : ∃ v, args[k]? = some v := ⟨args[k]'(by have : args.length = xl := Hxl.out; omega), List.getElem?_eq_getElem _⟩
            obtain ⟨xb', xoff, hxA, hxb, us, hus, hcell⟩ := SlAt.at HA.out hv
            unfold OpdP at hus
            subst hus
            have v0 := (bcell HB.out hxb).trans (hcell 0 _ rfl)
            have v1 := (bcell HB.out hxb).trans (hcell 1 _ rfl)
            simp only [Nat.add_zero] at v0 v1
            subst hxA
            have HC2 := HCb.out.below HB.out HCb.out.lt
            have hg1 := HC2.lt
            have q0 := HC2.cell 0
            have q1 := HC2.cell 1
            have q2 := HC2.cell 2
            have q3 := HC2.cell 3
            have q4 := HC2.cell 4
            have q5 := HC2.cell 5
            have q6 := HC2.cell 6
            have HB2 := Lib.hid (HB.out.alloc HB.out.size (.cells #[.bool vr, .int .i64 vn] 40))
            have Hv := Lib.hid hv
            have hk0 : (0 : Int) ≤ (k : Int) := Int.natCast_nonneg k
            have hk1 : (k : Int) < (xl : Int) := by omega
            clear hcell HC2 hv
            go_wp2_with fail
            refine (val_any _ _ _ _ _ _ _ _ _ _ _ _ _ ps regs ⟨vr, vn⟩ _ Hr.out).mono ?_
            rintro e w3 ⟨rfl, hb3⟩
            have HB3 := Lib.hid (HB2.out.trans (hb3.mono HB2.out.size))
            clear hb3
            by_cases he : valE regs ⟨vr, vn⟩ = 0
            · have HN2 : Hid (∀ j, j < k + 1 → argBad regs args j = 0) := Lib.hid (bad_step Hv.out he HN.out)
              rw [he]
              go_wp2_with fail
              go_roundw
              case rel => exact ⟨k + 1, by omega, by go_num, HN2, HB3⟩
              case measure => simp [intOf]; omega
            · have HE := Lib.hid (argE_hit (ps := fs.map FunU.params) (x := ⟨op, dst, xa, xb, (i : Int), args⟩) H20.out rfl Hp.out HLp.out Hv.out he HN.out)
              have hne : (valE regs ⟨vr, vn⟩ != 0) = true := by simpa using he
              clear he
              generalize valE regs ⟨vr, vn⟩ = ev at *
              go_wp2_with fail
              go_ret
              exact ⟨ret_int HE.out.symm, HB3.out⟩
          · have HE := Lib.hid (argE_ok (ps := fs.map FunU.params) (regs := regs) (x := ⟨op, dst, xa, xb, (i : Int), args⟩) H20.out rfl Hp.out HLp.out (by intro j hj; exact HN.out j (by have : args.length = xl := Hxl.out; have hj' : j < args.length := hj; omega)))
            go_wp2_with fail
            go_ret
            exact ⟨ret_int HE.out.symm, HB.out⟩
      · have HE := Lib.hid (argE_size (regs := regs) (x := ⟨op, dst, xa, xb, (i : Int), args⟩) H20.out rfl Hp.out (by rw [show args.length = xl from Hxl.out]; exact hlp))
        have hlb : ((xl : Int) != p) = true := by simpa using hlp
        clear hlp
        go_wp2_with fail
        go_quiet (fail)
        go_wp2_with fail
        go_ret
        exact ⟨ret_int HE.out.symm, below_drewN (Below.refl _ _) _⟩
    · have hq : decide (0 ≤ x.fn ∧ x.fn ≤ (fl : Int) - 1) = false := decide_eq_false hin
      have HE := Lib.hid (argE_far (ps := fs.map FunU.params) (regs := regs) h20 (by rw [List.length_map, hflen]; exact hq))
      rw [hq] at HW
      clear hq hin h20 hC hX hf ha hr
      go_enter Tryd.func98, Tryd.ntmps98
      go_wp2_with fail
      refine (HW.out _).mono ?_
      rintro e w1 ⟨rfl, rfl⟩
      go_wp2_with fail
      go_ret
      exact ⟨ret_int HE.out.symm, Below.refl _ _⟩
  · rw [decide_eq_false h20] at h0
    have HE := Lib.hid (argE_no (ps := fs.map FunU.params) (regs := regs) h20)
    clear h20 hC hX hf ha hr
    go_enter Tryd.func98, Tryd.ntmps98
    go_wp2_with fail
    go_ret
    exact ⟨ret_int HE.out.symm, Below.refl _ _⟩
end Go.Proofs.YtgnkkgbjcodihaaDoor
