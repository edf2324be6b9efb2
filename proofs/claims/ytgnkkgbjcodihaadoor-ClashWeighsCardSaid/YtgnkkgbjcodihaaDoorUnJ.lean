/-
  code.checker: ins.
  Conditions: as the theorems say.
-/
import Derived.Test.YtgnkkgbjcodihaaDoorUnI
import Derived.Deep.DeepCutAuto
import Derived.Deep.RegionHeld3
namespace Go.Proofs.YtgnkkgbjcodihaaDoor
open Go.RowKit

/-- Is an instruction not in its form? -/
def formB (x : InsU) : Bool := decide ((hasD x.op = false ∧ x.dst ≠ -1) ∨ (hasA x.op = false ∧ x.a ≠ Opd.zero) ∨ (hasB x.op = false ∧ x.b ≠ Opd.zero) ∨ (x.op ≠ 20 ∧ (x.fn ≠ 0 ∨ 0 < x.args.length)))
/-- Is its Dst to be looked at? -/
def needD (x : InsU) : Bool := hasD x.op && !(decide (x.op = 20) && decide (x.dst = -1))
section
variable {ps : List Int} {regs : Int} {x : InsU}
theorem insE_4 (h : decide (1 ≤ x.op ∧ x.op ≤ 22) = false) : insE ps regs x = 4 := by unfold insE; rw [if_pos (by unfold inB; exact h)]
theorem insE_5 (h : 1 ≤ x.op ∧ x.op ≤ 22) (h2 : formB x = true) : insE ps regs x = 5 := by
  unfold formB at h2
  rw [decide_eq_true_eq] at h2
  unfold insE
  rw [if_neg (by unfold inB; rw [decide_eq_true h]; simp), if_pos h2]
theorem insE_d (h : 1 ≤ x.op ∧ x.op ≤ 22) (h2 : formB x = false) (h3 : needD x = true) (h4 : dstE regs x.dst ≠ 0) : insE ps regs x = dstE regs x.dst := by
  unfold formB at h2
  rw [decide_eq_false_iff_not] at h2
  unfold needD at h3
  simp only [Bool.and_eq_true, Bool.not_eq_true', Bool.and_eq_false_iff, decide_eq_false_iff_not] at h3
  unfold insE
  rw [if_neg (by unfold inB; rw [decide_eq_true h]; simp), if_neg h2, if_pos ⟨h3.1, fun h => by rcases h3.2 with h' | h'; exact h' h.1; exact h' h.2, h4⟩]
theorem insE_t (h : 1 ≤ x.op ∧ x.op ≤ 22) (h2 : formB x = false) (h3 : needD x = true → dstE regs x.dst = 0) : insE ps regs x = first3 (valE regs x.a) (valE regs x.b) (argE ps regs x) := by
  unfold formB at h2
  rw [decide_eq_false_iff_not] at h2
  unfold insE first3
  rw [if_neg (by unfold inB; rw [decide_eq_true h]; simp), if_neg h2, if_neg]
  rintro ⟨h4, h5, h6⟩
  refine h6 (h3 ?_)
  unfold needD
  rw [h4]
  simp only [Bool.true_and, Bool.not_eq_true', Bool.and_eq_false_iff, decide_eq_false_iff_not]
  by_cases hc : x.op = 20
  · exact .inr fun hd => h5 ⟨hc, hd⟩
  · exact .inl hc
end
set_option maxRecDepth 100000 in
set_option maxHeartbeats 4000000 in
theorem ins_any (gA fA bA aA : Option Addr) (gl gc fl fc bl bc al ac : Nat) (nm : ByteArray) (ps regs : Int) (xA : Option Addr) (xl xc : Nat) (op dst : Int) (ar br : Bool) (an bn fn : Int) (args : List Opd) (fs : List FunU) (w : World) (hr : 0 ≤ regs ∧ regs ≤ 100) (hdst : I64 dst)
    (hf : FunsAt w w.heap.size (.slice fA fl fc) fs) (ha : OpdsAt w w.heap.size (.slice xA xl xc) args) (hfl : fl ≤ 9223372036854775807) :
    Calls Tryd.prog 80 #[.agg #[.slice gA gl gc, .slice fA fl fc, .string nm, .int .i64 ps, .int .i64 regs, .slice bA bl bc, .slice aA al ac], .agg #[.int .i64 op, .int .i64 dst, .bool ar, .int .i64 an, .bool br, .int .i64 bn, .int .i64 fn, .slice xA xl xc]] w fun e w' => e = .returned (.int .i64 (insE (fs.map FunU.params) regs ⟨op, dst, ⟨ar, an⟩, ⟨br, bn⟩, fn, args⟩)) ∧ Below w.heap.size w w' := by
  have Hr := Lib.hid hr
  have HF := Lib.hid hf
  have HA := Lib.hid ha
  have hxl : args.length = xl := SlAt.len ha
  have hx63 : xl ≤ 9223372036854775807 := by
    obtain ⟨A', c', e, h1, h2⟩ := SlAt.form ha
    omega
  have Hxl := Lib.hid hxl
  have HW := Lib.hid (Within_any op 1 22)
  have hd0 : -9223372036854775808 ≤ dst := hdst.1
  have hd1 : dst ≤ 9223372036854775807 := hdst.2
  clear hr hf ha hdst hxl
  by_cases hin : 1 ≤ op ∧ op ≤ 22
  · rw [decide_eq_true hin] at HW
    have Hin := Lib.hid hin
    clear hin
    have HW0 : Hid (Below w.heap.size w ((w.alloc (.cells #[.slice gA gl gc, .slice fA fl fc, .string nm, .int .i64 ps, .int .i64 regs, .slice bA bl bc, .slice aA al ac] 104)).alloc (.cells #[.int .i64 op, .int .i64 dst, .bool ar, .int .i64 an, .bool br, .int .i64 bn, .int .i64 fn, .slice xA xl xc] 47))) := Lib.hid (((Below.refl _ _).alloc (Nat.le_refl _) _).alloc (by simp) _)
    have HC0 : Hid (Blk ((w.alloc (.cells #[.slice gA gl gc, .slice fA fl fc, .string nm, .int .i64 ps, .int .i64 regs, .slice bA bl bc, .slice aA al ac] 104)).alloc (.cells #[.int .i64 op, .int .i64 dst, .bool ar, .int .i64 an, .bool br, .int .i64 bn, .int .i64 fn, .slice xA xl xc] 47)) w.heap.size 104 #[.slice gA gl gc, .slice fA fl fc, .string nm, .int .i64 ps, .int .i64 regs, .slice bA bl bc, .slice aA al ac]) := Lib.hid ((Blk.new w _ _).alloc _)
    have HX0 : Hid (Blk ((w.alloc (.cells #[.slice gA gl gc, .slice fA fl fc, .string nm, .int .i64 ps, .int .i64 regs, .slice bA bl bc, .slice aA al ac] 104)).alloc (.cells #[.int .i64 op, .int .i64 dst, .bool ar, .int .i64 an, .bool br, .int .i64 bn, .int .i64 fn, .slice xA xl xc] 47)) (w.heap.size + 1) 47 #[.int .i64 op, .int .i64 dst, .bool ar, .int .i64 an, .bool br, .int .i64 bn, .int .i64 fn, .slice xA xl xc]) := Lib.hid (by simpa using Blk.new (w.alloc (.cells #[.slice gA gl gc, .slice fA fl fc, .string nm, .int .i64 ps, .int .i64 regs, .slice bA bl bc, .slice aA al ac] 104)) 47 #[.int .i64 op, .int .i64 dst, .bool ar, .int .i64 an, .bool br, .int .i64 bn, .int .i64 fn, .slice xA xl xc])
    go_enter Tryd.func80, Tryd.ntmps80
    go_wp2_with fail
    refine (HW.out _).mono ?_
    rintro e w1 ⟨rfl, rfl⟩
    go_wp2_with fail
    generalize (w.alloc (.cells #[.slice gA gl gc, .slice fA fl fc, .string nm, .int .i64 ps, .int .i64 regs, .slice bA bl bc, .slice aA al ac] 104)).alloc (.cells #[.int .i64 op, .int .i64 dst, .bool ar, .int .i64 an, .bool br, .int .i64 bn, .int .i64 fn, .slice xA xl xc] 47) = W0 at *
    refine (Shapes_any op _ Hin.out).mono ?_
    rintro e W1 ⟨rfl, hb1⟩
    unfold shapeV
    have HC1 := HC0.out.below hb1 HC0.out.lt
    have HX1 := HX0.out.below hb1 HX0.out.lt
    have HB1 : Hid (Below w.heap.size w W1) := Lib.hid (HW0.out.trans (hb1.mono HW0.out.size))
    have hlt1 := HC1.lt
    have hlt2 := HX1.lt
    have d0 := HX1.cell 0
    generalize hg2 : w.heap.size + 1 = g2 at *
    obtain ⟨bD, hbD⟩ : ∃ b, hasD op = b := ⟨_, rfl⟩
    obtain ⟨bA', hbA⟩ : ∃ b, hasA op = b := ⟨_, rfl⟩
    obtain ⟨bB, hbB⟩ : ∃ b, hasB op = b := ⟨_, rfl⟩
    have HSh := Lib.hid (And.intro hbD (And.intro hbA hbB))
    rw [hbD, hbA, hbB]
    have HS0 : Hid (Blk (W1.alloc (.cells #[.bool bD, .bool bA', .bool bB] 96)) W1.heap.size 96 #[.bool bD, .bool bA', .bool bB]) := Lib.hid (Blk.new _ _ _)
    have HC2 := Lib.hid (HC1.alloc (.cells #[.bool bD, .bool bA', .bool bB] 96))
    have HX2 := Lib.hid (HX1.alloc (.cells #[.bool bD, .bool bA', .bool bB] 96))
    have HB2 := Lib.hid (HB1.out.alloc HB1.out.size (.cells #[.bool bD, .bool bA', .bool bB] 96))
    clear hb1 hbD hbA hbB HC1 HX1 HC0 HX0 HW0
    go_upto_region 4 with fail
    clear d0
    generalize hg3 : W1.heap.size = g3 at *
    generalize W1.alloc (.cells #[.bool bD, .bool bA', .bool bB] 96) = W2 at *
    have d0 := HX2.out.cell 0
    have hlt3 := HX2.out.lt
    have HQ0 : Hid (Blk (W2.alloc (.cells #[.bool (op == 20)] 4)) W2.heap.size 4 #[.bool (op == 20)]) := Lib.hid (Blk.new _ _ _)
    have HC3 := Lib.hid (HC2.out.alloc (.cells #[.bool (op == 20)] 4))
    have HX3 := Lib.hid (HX2.out.alloc (.cells #[.bool (op == 20)] 4))
    have HS3 := Lib.hid (HS0.out.alloc (.cells #[.bool (op == 20)] 4))
    have HB3 := Lib.hid (HB2.out.alloc HB2.out.size (.cells #[.bool (op == 20)] 4))
    go_upto_region 5 with fail
    clear d0 hlt3 hlt1 hlt2 HC2 HX2 HS0 HB2 HB1 hg2 hg3
    generalize hg4 : W2.heap.size = g4 at *
    generalize W2.alloc (.cells #[.bool (op == 20)] 4) = W at *
    go_cut [62] (fun s wx => s = .bool (formB ⟨op, dst, ⟨ar, an⟩, ⟨br, bn⟩, fn, args⟩) ∧ W = wx)
    case first =>
      have d1 := HX3.out.cell 1
      have d2 := HX3.out.cell 2
      have d3 := HX3.out.cell 3
      have d4 := HX3.out.cell 4
      have d5 := HX3.out.cell 5
      have d6 := HX3.out.cell 6
      have d7 := HX3.out.cell 7
      have s0 := HS3.out.cell 0
      have s1 := HS3.out.cell 1
      have s2 := HS3.out.cell 2
      have q0 := HQ0.out.cell 0
      clear HC3 HX3 HS3 HQ0 HB3 HF HA hg4
      rcases (by have := Hin.out; omega : (op = 1 ∨ op = 16 ∨ op = 17 ∨ op = 18) ∨ (2 ≤ op ∧ op ≤ 15) ∨ op = 19 ∨ op = 20 ∨ op = 21 ∨ op = 22) with h1 | h1 | h1 | h1 | h1 | h1
      · have HH := Lib.hid (has_one h1)
        obtain rfl : bD = true := HSh.out.1.symm.trans HH.out.1
        obtain rfl : bA' = true := HSh.out.2.1.symm.trans HH.out.2.1
        obtain rfl : bB = false := HSh.out.2.2.symm.trans HH.out.2.2
        have HOp : Hid (op ≠ 20) := Lib.hid (by omega)
        have hq : (op == 20) = false := by simp; omega
        rw [hq] at q0
        clear hq h1
        rcases br with _ | _
        · by_cases hn : bn = 0
          · subst hn
            by_cases hfn : fn = 0
            · subst hfn
              by_cases hl : xl = 0
              · subst hl
                have HFo : Hid (formB ⟨op, dst, ⟨ar, an⟩, ⟨false, 0⟩, 0, args⟩ = false) := Lib.hid (by
                  unfold formB
                  refine decide_eq_false ?_
                  rintro (⟨h, h'⟩ | ⟨h, h'⟩ | ⟨h, h'⟩ | ⟨h, h'⟩)
                  · rw [HH.out.1] at h; cases h
                  · rw [HH.out.2.1] at h; cases h
                  · exact h' rfl
                  · rcases h' with h' | h'; exact h' rfl; have h2 : 0 < args.length := h'; rw [Hxl.out] at h2; omega)
                clear Hin HSh HH HOp Hxl
                go_wp2_with fail
                go_meet
                exact ⟨by rw [HFo.out], rfl⟩
              · have hl0 : 0 < xl := Nat.pos_of_ne_zero hl
                clear hl
                have HFo : Hid (formB ⟨op, dst, ⟨ar, an⟩, ⟨false, 0⟩, 0, args⟩ = true) := Lib.hid (decide_eq_true (.inr (.inr (.inr ⟨HOp.out, .inr (by show 0 < args.length; rw [Hxl.out]; exact hl0)⟩))))
                clear Hin HSh HH HOp Hxl
                go_wp2_with fail
                go_meet
                exact ⟨by rw [HFo.out], rfl⟩
            · have hfb : (fn != 0) = true := by simpa using hfn
              have Hfn := Lib.hid hfn
              clear hfn
              have HFo : Hid (formB ⟨op, dst, ⟨ar, an⟩, ⟨false, 0⟩, fn, args⟩ = true) := Lib.hid (decide_eq_true (.inr (.inr (.inr ⟨HOp.out, .inl Hfn.out⟩))))
              clear Hin HSh HH HOp Hxl
              go_wp2_with fail
              go_meet
              exact ⟨by rw [HFo.out], rfl⟩
          · have hnb : (bn == 0) = false := by simpa using hn
            have Hn := Lib.hid hn
            clear hn
            have HFo : Hid (formB ⟨op, dst, ⟨ar, an⟩, ⟨false, bn⟩, fn, args⟩ = true) := Lib.hid (decide_eq_true (.inr (.inr (.inl ⟨HH.out.2.2, (fun h => Hn.out (by cases h; rfl))⟩))))
            clear Hin HSh HH HOp Hxl
            go_wp2_with fail
            go_meet
            exact ⟨by rw [HFo.out], rfl⟩
        · skip
          have HFo : Hid (formB ⟨op, dst, ⟨ar, an⟩, ⟨true, bn⟩, fn, args⟩ = true) := Lib.hid (decide_eq_true (.inr (.inr (.inl ⟨HH.out.2.2, (fun h => by cases h)⟩))))
          clear Hin HSh HH HOp Hxl
          go_wp2_with fail
          go_meet
          exact ⟨by rw [HFo.out], rfl⟩
      · have HH := Lib.hid (has_two h1)
        obtain rfl : bD = true := HSh.out.1.symm.trans HH.out.1
        obtain rfl : bA' = true := HSh.out.2.1.symm.trans HH.out.2.1
        obtain rfl : bB = true := HSh.out.2.2.symm.trans HH.out.2.2
        have HOp : Hid (op ≠ 20) := Lib.hid (by omega)
        have hq : (op == 20) = false := by simp; omega
        rw [hq] at q0
        clear hq h1
        by_cases hfn : fn = 0
        · subst hfn
          by_cases hl : xl = 0
          · subst hl
            have HFo : Hid (formB ⟨op, dst, ⟨ar, an⟩, ⟨br, bn⟩, 0, args⟩ = false) := Lib.hid (by
              unfold formB
              refine decide_eq_false ?_
              rintro (⟨h, h'⟩ | ⟨h, h'⟩ | ⟨h, h'⟩ | ⟨h, h'⟩)
              · rw [HH.out.1] at h; cases h
              · rw [HH.out.2.1] at h; cases h
              · rw [HH.out.2.2] at h; cases h
              · rcases h' with h' | h'; exact h' rfl; have h2 : 0 < args.length := h'; rw [Hxl.out] at h2; omega)
            clear Hin HSh HH HOp Hxl
            go_wp2_with fail
            go_meet
            exact ⟨by rw [HFo.out], rfl⟩
          · have hl0 : 0 < xl := Nat.pos_of_ne_zero hl
            clear hl
            have HFo : Hid (formB ⟨op, dst, ⟨ar, an⟩, ⟨br, bn⟩, 0, args⟩ = true) := Lib.hid (decide_eq_true (.inr (.inr (.inr ⟨HOp.out, .inr (by show 0 < args.length; rw [Hxl.out]; exact hl0)⟩))))
            clear Hin HSh HH HOp Hxl
            go_wp2_with fail
            go_meet
            exact ⟨by rw [HFo.out], rfl⟩
        · have hfb : (fn != 0) = true := by simpa using hfn
          have Hfn := Lib.hid hfn
          clear hfn
          have HFo : Hid (formB ⟨op, dst, ⟨ar, an⟩, ⟨br, bn⟩, fn, args⟩ = true) := Lib.hid (decide_eq_true (.inr (.inr (.inr ⟨HOp.out, .inl Hfn.out⟩))))
          clear Hin HSh HH HOp Hxl
          go_wp2_with fail
          go_meet
          exact ⟨by rw [HFo.out], rfl⟩
      · have HH := Lib.hid (show hasD op = false ∧ hasA op = true ∧ hasB op = true from by rw [h1]; exact has_store)
        obtain rfl : bD = false := HSh.out.1.symm.trans HH.out.1
        obtain rfl : bA' = true := HSh.out.2.1.symm.trans HH.out.2.1
        obtain rfl : bB = true := HSh.out.2.2.symm.trans HH.out.2.2
        have HOp : Hid (op ≠ 20) := Lib.hid (by omega)
        have hq : (op == 20) = false := by simp; omega
        rw [hq] at q0
        clear hq h1
        by_cases hd : dst = -1
        · subst hd
          by_cases hfn : fn = 0
          · subst hfn
            by_cases hl : xl = 0
            · subst hl
              have HFo : Hid (formB ⟨op, -1, ⟨ar, an⟩, ⟨br, bn⟩, 0, args⟩ = false) := Lib.hid (by
                unfold formB
                refine decide_eq_false ?_
                rintro (⟨h, h'⟩ | ⟨h, h'⟩ | ⟨h, h'⟩ | ⟨h, h'⟩)
                · exact h' rfl
                · rw [HH.out.2.1] at h; cases h
                · rw [HH.out.2.2] at h; cases h
                · rcases h' with h' | h'; exact h' rfl; have h2 : 0 < args.length := h'; rw [Hxl.out] at h2; omega)
              clear Hin HSh HH HOp Hxl
              go_wp2_with fail
              go_meet
              exact ⟨by rw [HFo.out], rfl⟩
            · have hl0 : 0 < xl := Nat.pos_of_ne_zero hl
              clear hl
              have HFo : Hid (formB ⟨op, -1, ⟨ar, an⟩, ⟨br, bn⟩, 0, args⟩ = true) := Lib.hid (decide_eq_true (.inr (.inr (.inr ⟨HOp.out, .inr (by show 0 < args.length; rw [Hxl.out]; exact hl0)⟩))))
              clear Hin HSh HH HOp Hxl
              go_wp2_with fail
              go_meet
              exact ⟨by rw [HFo.out], rfl⟩
          · have hfb : (fn != 0) = true := by simpa using hfn
            have Hfn := Lib.hid hfn
            clear hfn
            have HFo : Hid (formB ⟨op, -1, ⟨ar, an⟩, ⟨br, bn⟩, fn, args⟩ = true) := Lib.hid (decide_eq_true (.inr (.inr (.inr ⟨HOp.out, .inl Hfn.out⟩))))
            clear Hin HSh HH HOp Hxl
            go_wp2_with fail
            go_meet
            exact ⟨by rw [HFo.out], rfl⟩
        · have hdb : (dst != -1) = true := by simpa using hd
          have Hd := Lib.hid hd
          clear hd
          have HFo : Hid (formB ⟨op, dst, ⟨ar, an⟩, ⟨br, bn⟩, fn, args⟩ = true) := Lib.hid (decide_eq_true (.inl ⟨HH.out.1, Hd.out⟩))
          clear Hin HSh HH HOp Hxl
          go_wp2_with fail
          go_meet
          exact ⟨by rw [HFo.out], rfl⟩
      · have HH := Lib.hid (show hasD op = true ∧ hasA op = false ∧ hasB op = false from by rw [h1]; exact has_call)
        obtain rfl : bD = true := HSh.out.1.symm.trans HH.out.1
        obtain rfl : bA' = false := HSh.out.2.1.symm.trans HH.out.2.1
        obtain rfl : bB = false := HSh.out.2.2.symm.trans HH.out.2.2
        have HOp : Hid (op = 20) := Lib.hid h1
        have hq : (op == 20) = true := by simpa using h1
        rw [hq] at q0
        clear hq h1
        rcases ar with _ | _
        · by_cases hn : an = 0
          · subst hn
            rcases br with _ | _
            · by_cases hn : bn = 0
              · subst hn
                have HFo : Hid (formB ⟨op, dst, ⟨false, 0⟩, ⟨false, 0⟩, fn, args⟩ = false) := Lib.hid (by
                  unfold formB
                  refine decide_eq_false ?_
                  rintro (⟨h, h'⟩ | ⟨h, h'⟩ | ⟨h, h'⟩ | ⟨h, h'⟩)
                  · rw [HH.out.1] at h; cases h
                  · exact h' rfl
                  · exact h' rfl
                  · exact h HOp.out)
                clear Hin HSh HH HOp Hxl
                go_wp2_with fail
                go_meet
                exact ⟨by rw [HFo.out], rfl⟩
              · have hnb : (bn == 0) = false := by simpa using hn
                have Hn := Lib.hid hn
                clear hn
                have HFo : Hid (formB ⟨op, dst, ⟨false, 0⟩, ⟨false, bn⟩, fn, args⟩ = true) := Lib.hid (decide_eq_true (.inr (.inr (.inl ⟨HH.out.2.2, (fun h => Hn.out (by cases h; rfl))⟩))))
                clear Hin HSh HH HOp Hxl
                go_wp2_with fail
                go_meet
                exact ⟨by rw [HFo.out], rfl⟩
            · skip
              have HFo : Hid (formB ⟨op, dst, ⟨false, 0⟩, ⟨true, bn⟩, fn, args⟩ = true) := Lib.hid (decide_eq_true (.inr (.inr (.inl ⟨HH.out.2.2, (fun h => by cases h)⟩))))
              clear Hin HSh HH HOp Hxl
              go_wp2_with fail
              go_meet
              exact ⟨by rw [HFo.out], rfl⟩
          · have hnb : (an == 0) = false := by simpa using hn
            have Hn := Lib.hid hn
            clear hn
            have HFo : Hid (formB ⟨op, dst, ⟨false, an⟩, ⟨br, bn⟩, fn, args⟩ = true) := Lib.hid (decide_eq_true (.inr (.inl ⟨HH.out.2.1, (fun h => Hn.out (by cases h; rfl))⟩)))
            clear Hin HSh HH HOp Hxl
            go_wp2_with fail
            go_meet
            exact ⟨by rw [HFo.out], rfl⟩
        · skip
          have HFo : Hid (formB ⟨op, dst, ⟨true, an⟩, ⟨br, bn⟩, fn, args⟩ = true) := Lib.hid (decide_eq_true (.inr (.inl ⟨HH.out.2.1, (fun h => by cases h)⟩)))
          clear Hin HSh HH HOp Hxl
          go_wp2_with fail
          go_meet
          exact ⟨by rw [HFo.out], rfl⟩
      · have HH := Lib.hid (show hasD op = true ∧ hasA op = false ∧ hasB op = false from by rw [h1]; exact has_read)
        obtain rfl : bD = true := HSh.out.1.symm.trans HH.out.1
        obtain rfl : bA' = false := HSh.out.2.1.symm.trans HH.out.2.1
        obtain rfl : bB = false := HSh.out.2.2.symm.trans HH.out.2.2
        have HOp : Hid (op ≠ 20) := Lib.hid (by omega)
        have hq : (op == 20) = false := by simp; omega
        rw [hq] at q0
        clear hq h1
        rcases ar with _ | _
        · by_cases hn : an = 0
          · subst hn
            rcases br with _ | _
            · by_cases hn : bn = 0
              · subst hn
                by_cases hfn : fn = 0
                · subst hfn
                  by_cases hl : xl = 0
                  · subst hl
                    have HFo : Hid (formB ⟨op, dst, ⟨false, 0⟩, ⟨false, 0⟩, 0, args⟩ = false) := Lib.hid (by
                      unfold formB
                      refine decide_eq_false ?_
                      rintro (⟨h, h'⟩ | ⟨h, h'⟩ | ⟨h, h'⟩ | ⟨h, h'⟩)
                      · rw [HH.out.1] at h; cases h
                      · exact h' rfl
                      · exact h' rfl
                      · rcases h' with h' | h'; exact h' rfl; have h2 : 0 < args.length := h'; rw [Hxl.out] at h2; omega)
                    clear Hin HSh HH HOp Hxl
                    go_wp2_with fail
                    go_meet
                    exact ⟨by rw [HFo.out], rfl⟩
                  · have hl0 : 0 < xl := Nat.pos_of_ne_zero hl
                    clear hl
                    have HFo : Hid (formB ⟨op, dst, ⟨false, 0⟩, ⟨false, 0⟩, 0, args⟩ = true) := Lib.hid (decide_eq_true (.inr (.inr (.inr ⟨HOp.out, .inr (by show 0 < args.length; rw [Hxl.out]; exact hl0)⟩))))
                    clear Hin HSh HH HOp Hxl
                    go_wp2_with fail
                    go_meet
                    exact ⟨by rw [HFo.out], rfl⟩
                · have hfb : (fn != 0) = true := by simpa using hfn
                  have Hfn := Lib.hid hfn
                  clear hfn
                  have HFo : Hid (formB ⟨op, dst, ⟨false, 0⟩, ⟨false, 0⟩, fn, args⟩ = true) := Lib.hid (decide_eq_true (.inr (.inr (.inr ⟨HOp.out, .inl Hfn.out⟩))))
                  clear Hin HSh HH HOp Hxl
                  go_wp2_with fail
                  go_meet
                  exact ⟨by rw [HFo.out], rfl⟩
              · have hnb : (bn == 0) = false := by simpa using hn
                have Hn := Lib.hid hn
                clear hn
                have HFo : Hid (formB ⟨op, dst, ⟨false, 0⟩, ⟨false, bn⟩, fn, args⟩ = true) := Lib.hid (decide_eq_true (.inr (.inr (.inl ⟨HH.out.2.2, (fun h => Hn.out (by cases h; rfl))⟩))))
                clear Hin HSh HH HOp Hxl
                go_wp2_with fail
                go_meet
                exact ⟨by rw [HFo.out], rfl⟩
            · skip
              have HFo : Hid (formB ⟨op, dst, ⟨false, 0⟩, ⟨true, bn⟩, fn, args⟩ = true) := Lib.hid (decide_eq_true (.inr (.inr (.inl ⟨HH.out.2.2, (fun h => by cases h)⟩))))
              clear Hin HSh HH HOp Hxl
              go_wp2_with fail
              go_meet
              exact ⟨by rw [HFo.out], rfl⟩
          · have hnb : (an == 0) = false := by simpa using hn
            have Hn := Lib.hid hn
            clear hn
            have HFo : Hid (formB ⟨op, dst, ⟨false, an⟩, ⟨br, bn⟩, fn, args⟩ = true) := Lib.hid (decide_eq_true (.inr (.inl ⟨HH.out.2.1, (fun h => Hn.out (by cases h; rfl))⟩)))
            clear Hin HSh HH HOp Hxl
            go_wp2_with fail
            go_meet
            exact ⟨by rw [HFo.out], rfl⟩
        · skip
          have HFo : Hid (formB ⟨op, dst, ⟨true, an⟩, ⟨br, bn⟩, fn, args⟩ = true) := Lib.hid (decide_eq_true (.inr (.inl ⟨HH.out.2.1, (fun h => by cases h)⟩)))
          clear Hin HSh HH HOp Hxl
          go_wp2_with fail
          go_meet
          exact ⟨by rw [HFo.out], rfl⟩
      · have HH := Lib.hid (show hasD op = false ∧ hasA op = true ∧ hasB op = false from by rw [h1]; exact has_print)
        obtain rfl : bD = false := HSh.out.1.symm.trans HH.out.1
        obtain rfl : bA' = true := HSh.out.2.1.symm.trans HH.out.2.1
        obtain rfl : bB = false := HSh.out.2.2.symm.trans HH.out.2.2
        have HOp : Hid (op ≠ 20) := Lib.hid (by omega)
        have hq : (op == 20) = false := by simp; omega
        rw [hq] at q0
        clear hq h1
        by_cases hd : dst = -1
        · subst hd
          rcases br with _ | _
          · by_cases hn : bn = 0
            · subst hn
              by_cases hfn : fn = 0
              · subst hfn
                by_cases hl : xl = 0
                · subst hl
                  have HFo : Hid (formB ⟨op, -1, ⟨ar, an⟩, ⟨false, 0⟩, 0, args⟩ = false) := Lib.hid (by
                    unfold formB
                    refine decide_eq_false ?_
                    rintro (⟨h, h'⟩ | ⟨h, h'⟩ | ⟨h, h'⟩ | ⟨h, h'⟩)
                    · exact h' rfl
                    · rw [HH.out.2.1] at h; cases h
                    · exact h' rfl
                    · rcases h' with h' | h'; exact h' rfl; have h2 : 0 < args.length := h'; rw [Hxl.out] at h2; omega)
                  clear Hin HSh HH HOp Hxl
                  go_wp2_with fail
                  go_meet
                  exact ⟨by rw [HFo.out], rfl⟩
                · have hl0 : 0 < xl := Nat.pos_of_ne_zero hl
                  clear hl
                  have HFo : Hid (formB ⟨op, -1, ⟨ar, an⟩, ⟨false, 0⟩, 0, args⟩ = true) := Lib.hid (decide_eq_true (.inr (.inr (.inr ⟨HOp.out, .inr (by show 0 < args.length; rw [Hxl.out]; exact hl0)⟩))))
                  clear Hin HSh HH HOp Hxl
                  go_wp2_with fail
                  go_meet
                  exact ⟨by rw [HFo.out], rfl⟩
              · have hfb : (fn != 0) = true := by simpa using hfn
                have Hfn := Lib.hid hfn
                clear hfn
                have HFo : Hid (formB ⟨op, -1, ⟨ar, an⟩, ⟨false, 0⟩, fn, args⟩ = true) := Lib.hid (decide_eq_true (.inr (.inr (.inr ⟨HOp.out, .inl Hfn.out⟩))))
                clear Hin HSh HH HOp Hxl
                go_wp2_with fail
                go_meet
                exact ⟨by rw [HFo.out], rfl⟩
            · have hnb : (bn == 0) = false := by simpa using hn
              have Hn := Lib.hid hn
              clear hn
              have HFo : Hid (formB ⟨op, -1, ⟨ar, an⟩, ⟨false, bn⟩, fn, args⟩ = true) := Lib.hid (decide_eq_true (.inr (.inr (.inl ⟨HH.out.2.2, (fun h => Hn.out (by cases h; rfl))⟩))))
              clear Hin HSh HH HOp Hxl
              go_wp2_with fail
              go_meet
              exact ⟨by rw [HFo.out], rfl⟩
          · skip
            have HFo : Hid (formB ⟨op, -1, ⟨ar, an⟩, ⟨true, bn⟩, fn, args⟩ = true) := Lib.hid (decide_eq_true (.inr (.inr (.inl ⟨HH.out.2.2, (fun h => by cases h)⟩))))
            clear Hin HSh HH HOp Hxl
            go_wp2_with fail
            go_meet
            exact ⟨by rw [HFo.out], rfl⟩
        · have hdb : (dst != -1) = true := by simpa using hd
          have Hd := Lib.hid hd
          clear hd
          have HFo : Hid (formB ⟨op, dst, ⟨ar, an⟩, ⟨br, bn⟩, fn, args⟩ = true) := Lib.hid (decide_eq_true (.inl ⟨HH.out.1, Hd.out⟩))
          clear Hin HSh HH HOp Hxl
          go_wp2_with fail
          go_meet
          exact ⟨by rw [HFo.out], rfl⟩
    case rest =>
      obtain ⟨rfl, rfl⟩ := hcut
      cases hfo : formB ⟨op, dst, ⟨ar, an⟩, ⟨br, bn⟩, fn, args⟩
      · have HFo := Lib.hid hfo
        clear hfo
        go_upto_region 7 with fail
        go_cut [73] (fun s wx => s = .bool (needD ⟨op, dst, ⟨ar, an⟩, ⟨br, bn⟩, fn, args⟩) ∧ W = wx)
        case first =>
          have d1 := HX3.out.cell 1
          have s0 := HS3.out.cell 0
          have q0 := HQ0.out.cell 0
          have hsd := HSh.out.1
          clear HC3 HX3 HS3 HQ0 HB3 HF HA hg4
          cases bD
          · have HN : Hid (needD ⟨op, dst, ⟨ar, an⟩, ⟨br, bn⟩, fn, args⟩ = false) := Lib.hid (by unfold needD; simp [hsd])
            clear hsd
            go_wp2_with fail
            go_meet
            exact ⟨by rw [HN.out], rfl⟩
          · by_cases h20 : op = 20
            · subst h20
              simp only [BEq.rfl] at q0
              by_cases hd : dst = -1
              · subst hd
                have HN : Hid (needD ⟨20, -1, ⟨ar, an⟩, ⟨br, bn⟩, fn, args⟩ = false) := Lib.hid (by unfold needD; simp)
                clear hsd
                go_wp2_with fail
                go_meet
                exact ⟨by rw [HN.out], rfl⟩
              · have HN : Hid (needD ⟨20, dst, ⟨ar, an⟩, ⟨br, bn⟩, fn, args⟩ = true) := Lib.hid (by unfold needD; simp [hd, hsd])
                have hdb : (dst == -1) = false := by simpa using hd
                clear hsd hd
                go_wp2_with fail
                go_meet
                exact ⟨by rw [HN.out], rfl⟩
            · have HN : Hid (needD ⟨op, dst, ⟨ar, an⟩, ⟨br, bn⟩, fn, args⟩ = true) := Lib.hid (by unfold needD; simp [h20, hsd])
              have hb20 : (op == 20) = false := by simpa using h20
              rw [hb20] at q0
              clear hsd h20
              go_wp2_with fail
              go_meet
              exact ⟨by rw [HN.out], rfl⟩
        case rest =>
          obtain ⟨rfl, rfl⟩ := hcut
          cases hne : needD ⟨op, dst, ⟨ar, an⟩, ⟨br, bn⟩, fn, args⟩
          · have HNe := Lib.hid hne
            clear hne
            have HE : Hid (insE (fs.map FunU.params) regs ⟨op, dst, ⟨ar, an⟩, ⟨br, bn⟩, fn, args⟩ = first3 (valE regs ⟨ar, an⟩) (valE regs ⟨br, bn⟩) (argE (fs.map FunU.params) regs ⟨op, dst, ⟨ar, an⟩, ⟨br, bn⟩, fn, args⟩)) := Lib.hid (insE_t Hin.out HFo.out (fun h => absurd (HNe.out.symm.trans h) (by simp)))
            have hgC := HC3.out.lt
            have hgX := HX3.out.lt
            have hgQ := HQ0.out.lt
            go_wp2_with fail
            refine (first_any 96 97 98 #[.pointer (some ⟨w.heap.size, 0, none⟩), .pointer (some ⟨g2, 0, none⟩)] #[.pointer (some ⟨w.heap.size, 0, none⟩), .pointer (some ⟨g2, 0, none⟩)] #[.pointer (some ⟨g4, 0, none⟩), .pointer (some ⟨g2, 0, none⟩), .pointer (some ⟨w.heap.size, 0, none⟩)] (valE regs ⟨ar, an⟩) (valE regs ⟨br, bn⟩) (argE (fs.map FunU.params) regs ⟨op, dst, ⟨ar, an⟩, ⟨br, bn⟩, fn, args⟩) _ _ ((Blk.new _ _ _).cell 0) ((Blk.new _ _ _).cell 1) ((Blk.new _ _ _).cell 2) (Blk.new _ _ _).lt (fun a W => MuLone.run_callFunc_enter Tryd.func96 (by kernel_rfl) rfl a W) (fun a W => MuLone.run_callFunc_enter Tryd.func97 (by kernel_rfl) rfl a W) (fun a W => MuLone.run_callFunc_enter Tryd.func98 (by kernel_rfl) rfl a W) (fun V hV => ?_) (fun V hV => ?_) (fun V hV => ?_)).mono ?_
            · exact insA_any gA fA bA aA gl gc fl fc bl bc al ac nm ps regs w.heap.size g2 xA xl xc ⟨op, dst, ⟨ar, an⟩, ⟨br, bn⟩, fn, args⟩ V Hr.out ((HC3.out.alloc _).below hV (HC3.out.alloc _).lt) ((HX3.out.alloc _).below hV (HX3.out.alloc _).lt)
            · exact insB_any gA fA bA aA gl gc fl fc bl bc al ac nm ps regs w.heap.size g2 xA xl xc ⟨op, dst, ⟨ar, an⟩, ⟨br, bn⟩, fn, args⟩ V Hr.out ((HC3.out.alloc _).below hV (HC3.out.alloc _).lt) ((HX3.out.alloc _).below hV (HX3.out.alloc _).lt)
            · have hbV := (HB3.out.alloc HB3.out.size _).trans (hV.mono (HB3.out.alloc HB3.out.size _).size)
              exact insC_any gA fA bA aA gl gc fl fc bl bc al ac nm ps regs g4 w.heap.size g2 xA xl xc ⟨op, dst, ⟨ar, an⟩, ⟨br, bn⟩, fn, args⟩ fs V Hr.out ((HC3.out.alloc _).below hV (HC3.out.alloc _).lt) ((HX3.out.alloc _).below hV (HX3.out.alloc _).lt) (((HQ0.out.alloc _).below hV (HQ0.out.alloc _).lt).cell 0) (HF.out.move hbV.size (kept_of hbV (Nat.le_refl _))) (HA.out.move hbV.size (kept_of hbV (Nat.le_refl _))) hfl
            rintro e W9 ⟨rfl, hb9⟩
            have HB9 : Hid (Below w.heap.size w W9) := Lib.hid ((HB3.out.alloc HB3.out.size _).trans (hb9.mono (HB3.out.alloc HB3.out.size _).size))
            clear hb9
            go_wp2_with fail
            go_ret
            exact ⟨ret_int HE.out.symm, HB9.out⟩
          · have HNe := Lib.hid hne
            have d1 := HX3.out.cell 1
            have c0 := HC3.out.cell 0
            have c1 := HC3.out.cell 1
            have c2 := HC3.out.cell 2
            have c3 := HC3.out.cell 3
            have c4 := HC3.out.cell 4
            have c5 := HC3.out.cell 5
            have c6 := HC3.out.cell 6
            clear hne
            go_wp2_with fail
            refine (dst_any gA fA bA aA gl gc fl fc bl bc al ac nm ps regs dst _ Hr.out).mono ?_
            rintro e W5 ⟨rfl, hb5⟩
            have HC3 := Lib.hid (HC3.out.below hb5 HC3.out.lt)
            have HX3 := Lib.hid (HX3.out.below hb5 HX3.out.lt)
            have HQ0 := Lib.hid (HQ0.out.below hb5 HQ0.out.lt)
            have HB3 := Lib.hid (HB3.out.trans (hb5.mono HB3.out.size))
            clear hb5 c0 c1 c2 c3 c4 c5 c6 d1
            by_cases he : dstE regs dst = 0
            · have HE : Hid (insE (fs.map FunU.params) regs ⟨op, dst, ⟨ar, an⟩, ⟨br, bn⟩, fn, args⟩ = first3 (valE regs ⟨ar, an⟩) (valE regs ⟨br, bn⟩) (argE (fs.map FunU.params) regs ⟨op, dst, ⟨ar, an⟩, ⟨br, bn⟩, fn, args⟩)) := Lib.hid (insE_t Hin.out HFo.out (fun _ => he))
              rw [he]
              have hgC := HC3.out.lt
              have hgX := HX3.out.lt
              have hgQ := HQ0.out.lt
              go_wp2_with fail
              refine (first_any 96 97 98 #[.pointer (some ⟨w.heap.size, 0, none⟩), .pointer (some ⟨g2, 0, none⟩)] #[.pointer (some ⟨w.heap.size, 0, none⟩), .pointer (some ⟨g2, 0, none⟩)] #[.pointer (some ⟨g4, 0, none⟩), .pointer (some ⟨g2, 0, none⟩), .pointer (some ⟨w.heap.size, 0, none⟩)] (valE regs ⟨ar, an⟩) (valE regs ⟨br, bn⟩) (argE (fs.map FunU.params) regs ⟨op, dst, ⟨ar, an⟩, ⟨br, bn⟩, fn, args⟩) _ _ ((Blk.new _ _ _).cell 0) ((Blk.new _ _ _).cell 1) ((Blk.new _ _ _).cell 2) (Blk.new _ _ _).lt (fun a W => MuLone.run_callFunc_enter Tryd.func96 (by kernel_rfl) rfl a W) (fun a W => MuLone.run_callFunc_enter Tryd.func97 (by kernel_rfl) rfl a W) (fun a W => MuLone.run_callFunc_enter Tryd.func98 (by kernel_rfl) rfl a W) (fun V hV => ?_) (fun V hV => ?_) (fun V hV => ?_)).mono ?_
              · exact insA_any gA fA bA aA gl gc fl fc bl bc al ac nm ps regs w.heap.size g2 xA xl xc ⟨op, dst, ⟨ar, an⟩, ⟨br, bn⟩, fn, args⟩ V Hr.out ((HC3.out.alloc _).below hV (HC3.out.alloc _).lt) ((HX3.out.alloc _).below hV (HX3.out.alloc _).lt)
              · exact insB_any gA fA bA aA gl gc fl fc bl bc al ac nm ps regs w.heap.size g2 xA xl xc ⟨op, dst, ⟨ar, an⟩, ⟨br, bn⟩, fn, args⟩ V Hr.out ((HC3.out.alloc _).below hV (HC3.out.alloc _).lt) ((HX3.out.alloc _).below hV (HX3.out.alloc _).lt)
              · have hbV := (HB3.out.alloc HB3.out.size _).trans (hV.mono (HB3.out.alloc HB3.out.size _).size)
                exact insC_any gA fA bA aA gl gc fl fc bl bc al ac nm ps regs g4 w.heap.size g2 xA xl xc ⟨op, dst, ⟨ar, an⟩, ⟨br, bn⟩, fn, args⟩ fs V Hr.out ((HC3.out.alloc _).below hV (HC3.out.alloc _).lt) ((HX3.out.alloc _).below hV (HX3.out.alloc _).lt) (((HQ0.out.alloc _).below hV (HQ0.out.alloc _).lt).cell 0) (HF.out.move hbV.size (kept_of hbV (Nat.le_refl _))) (HA.out.move hbV.size (kept_of hbV (Nat.le_refl _))) hfl
              rintro e W9 ⟨rfl, hb9⟩
              have HB9 : Hid (Below w.heap.size w W9) := Lib.hid ((HB3.out.alloc HB3.out.size _).trans (hb9.mono (HB3.out.alloc HB3.out.size _).size))
              clear hb9
              go_wp2_with fail
              go_ret
              exact ⟨ret_int HE.out.symm, HB9.out⟩
            · have HE : Hid (insE (fs.map FunU.params) regs ⟨op, dst, ⟨ar, an⟩, ⟨br, bn⟩, fn, args⟩ = dstE regs dst) := Lib.hid (insE_d Hin.out HFo.out HNe.out he)
              have hb : (dstE regs dst != 0) = true := by simpa using he
              clear he
              generalize dstE regs dst = ev at *
              go_wp2_with fail
              go_ret
              exact ⟨ret_int HE.out.symm, HB3.out⟩
      · have HE : Hid (insE (fs.map FunU.params) regs ⟨op, dst, ⟨ar, an⟩, ⟨br, bn⟩, fn, args⟩ = 5) := Lib.hid (insE_5 Hin.out hfo)
        clear hfo
        go_wp2_with fail
        go_ret
        exact ⟨ret_int HE.out.symm, HB3.out⟩
  · have HE : Hid (insE (fs.map FunU.params) regs ⟨op, dst, ⟨ar, an⟩, ⟨br, bn⟩, fn, args⟩ = 4) := Lib.hid (insE_4 (decide_eq_false hin))
    rw [decide_eq_false hin] at HW
    clear hin
    go_enter Tryd.func80, Tryd.ntmps80
    go_wp2_with fail
    refine (HW.out _).mono ?_
    rintro e w1 ⟨rfl, rfl⟩
    go_wp2_with fail
    go_ret
    exact ⟨ret_int HE.out.symm, ((Below.refl _ _).alloc (Nat.le_refl _) _).alloc (by simp) _⟩
end Go.Proofs.YtgnkkgbjcodihaaDoor
