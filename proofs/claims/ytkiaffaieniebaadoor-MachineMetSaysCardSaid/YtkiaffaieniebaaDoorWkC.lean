/-
  The reference machine's step, the other instructions.
  Conditions: the World lies in memory; the instruction is sound; few steps.
-/
import Derived.Test.YtkiaffaieniebaaDoorWkB
import Derived.BigQuiet
import Derived.StillTailTactics
namespace Go.Proofs.YtkiaffaieniebaaDoor
open Go.RowKit

set_option maxRecDepth 100000 in
set_option maxHeartbeats 2000000 in
theorem StepB_any (m : Mac) (hsel : m.op = 33 ∨ m.op = 34 ∨ m.op = 35 ∨ m.op = 36 ∨ m.op = 44 ∨ m.op = 46) (len rts : Nat) (W : World) (g base : Nat) (codes : List (List Mac)) (inp : List Int) (iv : Value) (s : Mch) (c : Fr) (cs : List Fr) (h : WIs W g base inp s) (hc : s.calls = c :: cs) (hG : GoodS codes s) (hm : GoodM m len rts)
    (hpc : c.pc < 5000) (hst : s.steps < 1000000) (hin : IntsAt W base iv inp) (hg : base ≤ g) :
    Calls Tryd.prog 40 #[.pointer (some ⟨g, 0, none⟩), macV m, iv] W fun e W' => e = .returned (.tuple #[]) ∧ WIs W' g base inp (doS m c.next cs (s.begun c cs)) ∧ Below base W W' := by
  obtain ⟨R, rd, hW, hrd, hinp⟩ := h
  have hr16 := hG.regs
  have ho := hG.out
  have hcl := hG.calls
  have hml := hG.mem
  have hil := hG.input
  have hws : ∀ d ∈ s.calls, d.ws.length = 120 := fun d hd => by obtain ⟨_, _, _, h⟩ := hG.frs d hd; exact h
  obtain ⟨t, ht⟩ : ∃ t, cs.length = t := ⟨_, rfl⟩
  have hwl : (wX s 3).length = t + 1 := by show (whoW s.calls).length = _; rw [whoW_len, hc, List.length_cons, ht]
  have hal : (wX s 4).length = t + 1 := by show (atW s.calls).length = _; rw [atW_len, hc, List.length_cons, ht]
  have hfl : (wX s 2).length = 120 * (t + 1) := by show (framesW s.calls).length = _; rw [framesW_len _ hws, hc, List.length_cons, ht]
  have h0l : (wX s 0).length = 16 := hr16
  obtain ⟨b0, c0, hR0, _⟩ := hW.got (i := 0) (by omega) (by omega)
  obtain ⟨b2, c2, hR2, _⟩ := hW.got (i := 2) (by omega) (by omega)
  obtain ⟨b3, c3, hR3, _⟩ := hW.got (i := 3) (by omega) (by omega)
  obtain ⟨b4, c4, hR4, hb4⟩ := hW.got (i := 4) (by omega) (by omega)
  obtain ⟨A1, c1, hR1⟩ := hW.form (i := 1) (by omega)
  obtain ⟨A5, c5, hR5⟩ := hW.form (i := 5) (by omega)
  rw [h0l] at hR0
  rw [hfl] at hR2
  rw [hwl] at hR3
  rw [hal] at hR4
  obtain ⟨op, dst, a, b, nn⟩ := m
  obtain ⟨o1, o2, d1, d2, a1, a2, b1, b2', hwn, htn, hrn⟩ := hm
  simp only at hsel o1 o2 d1 d2 a1 a2 b1 b2' hwn htn hrn
  obtain ⟨dst, rfl⟩ := Int.eq_ofNat_of_zero_le d1
  obtain ⟨a, rfl⟩ := Int.eq_ofNat_of_zero_le a1
  obtain ⟨b, rfl⟩ := Int.eq_ofNat_of_zero_le b1
  have hbox : Below W.heap.size W (W.alloc (.cells #[.int .i64 op, .int .i64 (dst : Int), .int .i64 (a : Int), .int .i64 (b : Int), .int .i64 nn] 24)) := (Below.refl _ _).alloc (Nat.le_refl _) _
  have HBox := Lib.hid hbox
  have HMk : Hid (Blk (W.alloc (.cells #[.int .i64 op, .int .i64 (dst : Int), .int .i64 (a : Int), .int .i64 (b : Int), .int .i64 nn] 24)) W.heap.size 24 #[.int .i64 op, .int .i64 (dst : Int), .int .i64 (a : Int), .int .i64 (b : Int), .int .i64 nn]) := Lib.hid (Blk.new _ _ _)
  have HW1 := Lib.hid (hW.below hbox)
  have HB0 : Hid (base ≤ W.heap.size) := Lib.hid (by have := hW.blk.lt; omega)
  have HR := Lib.hid (And.intro hR0 (And.intro hR1 (And.intro hR2 (And.intro hR3 (And.intro hR4 hR5)))))
  have HIn := Lib.hid (hin.below hbox HB0.out)
  have HLen := Lib.hid (And.intro ho (And.intro hcl (And.intro hml (And.intro hil hws))))
  have HRd := Lib.hid (And.intro hrd hinp)
  have HC := Lib.hid hc
  have HT := Lib.hid ht
  obtain ⟨xa, hxa⟩ : ∃ x, s.regs[a]? = some x := ⟨s.regs[a]'(by omega), List.getElem?_eq_getElem _⟩
  obtain ⟨xb, hxb⟩ : ∃ x, s.regs[b]? = some x := ⟨s.regs[b]'(by omega), List.getElem?_eq_getElem _⟩
  have ea : s.reg (a : Int) = xa := by unfold Mch.reg; rw [Int.toNat_natCast, List.getD_eq_getElem?_getD, hxa]; rfl
  have eb : s.reg (b : Int) = xb := by unfold Mch.reg; rw [Int.toNat_natCast, List.getD_eq_getElem?_getD, hxb]; rfl
  have hpcx : (wX s 4)[t]? = some (c.pc : Int) := by show (atW s.calls)[t]? = _; rw [hc, atW_cons, List.getElem?_append_right (by rw [atW_len, ht]; exact Nat.le_refl _), atW_len, ht, Nat.sub_self]; rfl
  have HX := Lib.hid (And.intro hxa (And.intro hxb (And.intro ea (And.intro eb hpcx))))
  have HL16 : Hid ((wX (s.begun c cs) 0).length = 16) := Lib.hid h0l
  obtain ⟨PE, hPE⟩ : ∃ PE : Ending → World → Prop, (fun e W' => e = .returned (.tuple #[]) ∧ WIs W' g base inp (doS ⟨op, (dst : Int), (a : Int), (b : Int), nn⟩ c.next cs (s.begun c cs)) ∧ Below base W W') = PE := ⟨_, rfl⟩
  rw [hPE]
  have HPE := Lib.hid hPE
  unfold macV
  clear hPE hW hrd hinp hr16 ho hcl hml hil hws hwl hal hfl h0l hR0 hR1 hR2 hR3 hR4 hR5 hbox hin hc ht hxa hxb ea eb hpcx hG
  go_enter Tryd.func40, Tryd.ntmps40
  go_upto_region 1 with fail
  generalize W.alloc (.cells #[.int .i64 op, .int .i64 (dst : Int), .int .i64 (a : Int), .int .i64 (b : Int), .int .i64 nn] 24) = W1 at *
  have hR := HR.out
  have k0 : W1.cell? ⟨g, 0, none⟩ = some (.slice (some ⟨b0, 0, none⟩) 16 c0) := (HW1.out.blk.cell 0).trans (by rw [← hR.1]; rfl)
  have k3 : W1.cell? ⟨g, 3, none⟩ = some (.slice (some ⟨b3, 0, none⟩) (t + 1) c3) := (HW1.out.blk.cell 3).trans (by rw [← hR.2.2.2.1]; rfl)
  have k4 : W1.cell? ⟨g, 4, none⟩ = some (.slice (some ⟨b4, 0, none⟩) (t + 1) c4) := (HW1.out.blk.cell 4).trans (by rw [← hR.2.2.2.2.1]; rfl)
  have k9 : W1.cell? ⟨g, 9, none⟩ = some (.int .i64 (s.steps : Int)) := HW1.out.blk.cell 9
  have m2 : W1.cell? ⟨W.heap.size, 2, none⟩ = some (.int .i64 (a : Int)) := HMk.out.cell 2
  have m3 : W1.cell? ⟨W.heap.size, 3, none⟩ = some (.int .i64 (b : Int)) := HMk.out.cell 3
  have ra := HW1.out.cell (i := 0) (by omega) hR.1 HX.out.1
  have rb := HW1.out.cell (i := 0) (by omega) hR.1 HX.out.2.1
  have pc0 := HW1.out.cell (i := 4) (by omega) hR.2.2.2.2.1 HX.out.2.2.2.2
  have f4 := HW1.out.frozen (i := 4) (by omega) hR.2.2.2.2.1 t
  have f9 := HW1.out.blk.frozen 9
  have hw1 : IntKind.i64.wrap (t : Int) = (t : Int) := by rw [IntKind.wrap_i64]; have := HLen.out.2.1; rw [HC.out, List.length_cons, HT.out] at this; omega
  have hw2 : IntKind.i64.wrap ((c.pc : Int) + 1) = ((c.pc + 1 : Nat) : Int) := by rw [IntKind.wrap_i64]; omega
  have hw3 : IntKind.i64.wrap ((s.steps : Int) + 1) = ((s.steps + 1 : Nat) : Int) := by rw [IntKind.wrap_i64]; omega
  have ha0 : (0 : Int) ≤ (a : Int) := Int.natCast_nonneg _
  have hb0 : (0 : Int) ≤ (b : Int) := Int.natCast_nonneg _
  have ht0 : (0 : Int) ≤ (t : Int) := Int.natCast_nonneg _
  have ht1 : (t : Int) < ((t + 1 : Nat) : Int) := by omega
  clear hR
  go_wp2_with fail
  go_quiet (fail)
  go_upto_region 3 with fail
  go_quiet (fail)
  go_upto_region 5 with fail
  generalize hWq : W1.drewN _ = Wq at *
  have HWq : Hid (WAt Wq g base R (wX s) (rd : Int) s.state s.value (s.steps : Int) s.over) := Lib.hid (by rw [← hWq]; exact HW1.out.below (below_drewN (Below.refl _ _) _))
  have HBq : Hid (Below W.heap.size W Wq) := Lib.hid (by rw [← hWq]; exact below_drewN HBox.out _)
  have HMq : Hid (Blk Wq W.heap.size 24 #[.int .i64 op, .int .i64 (dst : Int), .int .i64 (a : Int), .int .i64 (b : Int), .int .i64 nn]) := Lib.hid (by rw [← hWq]; exact HMk.out)
  have HInq : Hid (IntsAt Wq base iv inp) := Lib.hid (by rw [← hWq]; exact HIn.out)
  clear hWq k0 k3 k4 k9 m2 m3 ra rb pc0 f4 f9 HW1 HMk HIn HBox hw1 hw2
  have hR4 := HR.out.2.2.2.2.1
  have HW2 := Lib.hid (HWq.out.set 4 (by omega) hR4 t (((c.pc + 1 : Nat) : Int)))
  have hlo4 : base ≤ b4 := hb4
  have HM2 := Lib.hid (HMq.out.far (p := ⟨b4, t, none⟩) (by obtain ⟨_, cs', hb⟩ := HWq.out.bases (i := 4) (by omega) hR4; exact Blk.types HMq.out hb (by decide)) (.int .i64 (((c.pc + 1 : Nat) : Int))))
  have HB2 := Lib.hid ((HBq.out.mono HB0.out).setCell (p := ⟨b4, t, none⟩) hlo4 (.int .i64 (((c.pc + 1 : Nat) : Int))))
  have HIn2 := Lib.hid (HInq.out.below (((Below.refl base Wq).setCell (p := ⟨b4, t, none⟩) hlo4 (.int .i64 (((c.pc + 1 : Nat) : Int))))) (Nat.le_refl _))
  rw [show ((c.pc : Int) + 1) = (((c.pc + 1 : Nat) : Int)) by omega]
  clear hR4 HWq HBq HMq HInq
  generalize Wq.setCell ⟨b4, t, none⟩ (.int .i64 (((c.pc + 1 : Nat) : Int))) = W2 at *
  have k9 : W2.cell? ⟨g, 9, none⟩ = some (.int .i64 (s.steps : Int)) := HW2.out.blk.cell 9
  have f9 := HW2.out.blk.frozen 9
  go_upto_region 6 with fail
  have HW3 := Lib.hid (HW2.out.sp' ((s.steps + 1 : Nat) : Int))
  have HM3 := Lib.hid (HM2.out.far (p := ⟨g, 9, none⟩) (Blk.types HM2.out HW2.out.blk (by decide)) (.int .i64 ((s.steps + 1 : Nat) : Int)))
  have HB3 := Lib.hid (HB2.out.setCell (p := ⟨g, 9, none⟩) hg (.int .i64 ((s.steps + 1 : Nat) : Int)))
  have HIn3 := Lib.hid (HIn2.out.below (((Below.refl base W2).setCell (p := ⟨g, 9, none⟩) hg (.int .i64 ((s.steps + 1 : Nat) : Int)))) (Nat.le_refl _))
  rw [show ((s.steps : Int) + 1) = ((s.steps + 1 : Nat) : Int) by omega]
  clear k9 f9 HW2 HM2 HB2 HIn2 hw3
  generalize W2.setCell ⟨g, 9, none⟩ (.int .i64 ((s.steps + 1 : Nat) : Int)) = W3 at *
  have HW4 : Hid (WAt W3 g base R (wX (s.begun c cs)) (rd : Int) (s.begun c cs).state (s.begun c cs).value ((s.begun c cs).steps : Int) (s.begun c cs).over) := Lib.hid (HW3.out.congr (fun _ _ => rfl) fun i hi => by
    have := wX_begun s c cs HC.out i hi
    rw [HT.out] at this
    exact this)
  have HBeg : Hid ((s.begun c cs).regs = s.regs ∧ (s.begun c cs).mem = s.mem ∧ (s.begun c cs).calls = c.next :: cs ∧ (s.begun c cs).input = s.input ∧ (s.begun c cs).out = s.out) := Lib.hid ⟨rfl, rfl, rfl, rfl, rfl⟩
  have HRg : Hid ((s.begun c cs).reg (a : Int) = xa ∧ (s.begun c cs).reg (b : Int) = xb) := Lib.hid ⟨HX.out.2.2.1, HX.out.2.2.2.1⟩
  obtain ⟨gx, hgx⟩ : ∃ x, W.heap.size = x := ⟨_, rfl⟩
  rw [hgx] at HM3 ⊢
  have m0 : W3.cell? ⟨gx, 0, none⟩ = some (.int .i64 op) := HM3.out.cell 0
  have m1 : W3.cell? ⟨gx, 1, none⟩ = some (.int .i64 (dst : Int)) := HM3.out.cell 1
  have m4 : W3.cell? ⟨gx, 4, none⟩ = some (.int .i64 nn) := HM3.out.cell 4
  have hR := HR.out
  have k0 : W3.cell? ⟨g, 0, none⟩ = some (.slice (some ⟨b0, 0, none⟩) 16 c0) := (HW4.out.blk.cell 0).trans (by rw [← hR.1]; rfl)
  have rd0 : ∀ j : Nat, j < 16 → ∃ x, W3.cell? ⟨b0, j, none⟩ = some (.int .i64 x) := fun j hj => by
    have h16 : (wX (s.begun c cs) 0).length = 16 := HL16.out
    exact ⟨_, HW4.out.cell (i := 0) (by omega) hR.1 (List.getElem?_eq_getElem (by rw [h16]; exact hj))⟩
  obtain ⟨xd, hxd⟩ := rd0 dst (by omega)
  have fd := HW4.out.frozen (i := 0) (by omega) hR.1 dst
  have hd0 : (0 : Int) ≤ (dst : Int) := Int.natCast_nonneg _
  clear hR rd0 hgx HW3
  have HFin : Hid (∀ W' s', doS ⟨op, (dst : Int), (a : Int), (b : Int), nn⟩ c.next cs (s.begun c cs) = s' → WIs W' g base inp s' → Below base W W' → PE (.returned (.tuple #[])) W') := Lib.hid fun W' s' e h1 h2 => by rw [← HPE.out, e]; exact ⟨rfl, h1, h2⟩
  have HInp : Hid (rd ≤ inp.length ∧ (s.begun c cs).input = inp.drop rd) := Lib.hid HRd.out
  have HSm : Hid ((s.begun c cs).out.length ≤ 200 ∧ (s.begun c cs).calls.length ≤ 30 ∧ (s.begun c cs).mem.length ≤ 200 ∧ (∀ d ∈ (s.begun c cs).calls, d.ws.length = 120)) := Lib.hid ⟨HLen.out.1, by have := HLen.out.2.1; rw [HC.out] at this; exact this, HLen.out.2.2.1, fun d hd => by
    rw [HBeg.out.2.2.1, List.mem_cons] at hd
    rcases hd with rfl | hd
    · exact HLen.out.2.2.2.2 c (by rw [HC.out]; exact List.mem_cons_self ..)
    · exact HLen.out.2.2.2.2 d (by rw [HC.out]; exact List.mem_cons_of_mem _ hd)⟩
  generalize s.begun c cs = sb at *
  have HSet : Hid (∀ v : Int, WIs (W3.setCell ⟨b0, dst, none⟩ (.int .i64 v)) g base inp (sb.set (dst : Int) v) ∧ Below base W (W3.setCell ⟨b0, dst, none⟩ (.int .i64 v))) := Lib.hid fun v =>
    ⟨⟨R, rd, (HW4.out.set 0 (by omega) HR.out.1 dst v).congr (fun _ _ => rfl) (fun i hi => wX_set sb dst v i hi), HInp.out⟩, HB3.out.setCell (p := ⟨b0, dst, none⟩) (HW4.out.bases (i := 0) (by omega) HR.out.1).1 _⟩
  have HEnd : Hid (∀ x : Int, Calls Tryd.prog 55 #[.pointer (some ⟨g, 0, none⟩), .int .i64 x] W3 fun e W' => e = .returned (.tuple #[]) ∧ WIs W' g base inp (sb.ends x) ∧ Below base W W') := Lib.hid fun x => by
    refine (Wends_any W3 g base R (wX sb) (rd : Int) sb.state sb.value (sb.steps : Int) x sb.over HW4.out hg).mono ?_
    rintro e W' ⟨rfl, h1, h2⟩
    exact ⟨rfl, ⟨R, rd, h1.congr (fun _ _ => rfl) (fun i hi => by match i, hi with | 0, _ => rfl | 1, _ => rfl | 2, _ => rfl | 3, _ => rfl | 4, _ => rfl | 5, _ => rfl | i + 6, h => omega), HInp.out⟩, HB3.out.trans h2⟩
  clear HPE HX HLen HC HRd
  rcases hsel with rfl | rfl | rfl | rfl | rfl | rfl
  · have hR1 := HR.out.2.1
    obtain ⟨ml, hml⟩ : ∃ n, sb.mem.length = n := ⟨_, rfl⟩
    have hl1 : (wX sb 1).length = ml := hml
    have hl1s : (wX s 1).length = ml := by rw [← hml, HBeg.out.2.1]; rfl
    rw [hl1s] at hR1
    have k1 : W3.cell? ⟨g, 1, none⟩ = some (.slice A1 ml c1) := (HW4.out.blk.cell 1).trans (by rw [← hR1]; rfl)
    obtain ⟨z, hz⟩ : ∃ z, IntKind.i64.wrap (xa + nn) = z := ⟨_, rfl⟩
    have hdo : doS ⟨33, (dst : Int), (a : Int), (b : Int), nn⟩ c.next cs sb = loadS (dst : Int) z sb := by
      rw [← hz]
      show loadS (dst : Int) (wrap64 (sb.reg (a : Int) + nn)) sb = _
      rw [HRg.out.1, IntKind.wrap_i64]
      simp only [wrap64]
    unfold loadS at hdo
    rw [hml] at hdo
    have HMl := Lib.hid (And.intro hR1 (And.intro hl1 hml))
    by_cases hz0 : z < 0
    · rw [if_neg (by omega)] at hdo
      have HDo := Lib.hid hdo
      clear hdo hR1 hl1 hl1s hml
      go_wp2_with fail
      refine (HEnd.out 3).mono ?_
      rintro e W' ⟨rfl, h1, h2⟩
      have H1 := Lib.hid h1
      have H2 := Lib.hid h2
      clear h1 h2
      go_wp2_with fail
      go_end0
      exact HFin.out _ _ HDo.out H1.out H2.out
    · by_cases hz1 : (ml : Int) ≤ z
      · rw [if_neg (by omega)] at hdo
        have HDo := Lib.hid hdo
        clear hdo hR1 hl1 hl1s hml
        go_wp2_with fail
        refine (HEnd.out 3).mono ?_
        rintro e W' ⟨rfl, h1, h2⟩
        have H1 := Lib.hid h1
        have H2 := Lib.hid h2
        clear h1 h2
        go_wp2_with fail
        go_end0
        exact HFin.out _ _ HDo.out H1.out H2.out
      · rw [if_pos (by omega)] at hdo
        obtain ⟨zn, rfl⟩ := Int.eq_ofNat_of_zero_le (show 0 ≤ z by omega)
        have hzn : zn < ml := by omega
        obtain ⟨bm, cm, hRm, hbm⟩ := HW4.out.got (i := 1) (by omega) (by rw [hl1]; omega)
        rw [hR1] at hRm
        obtain rfl : A1 = some ⟨bm, 0, none⟩ := (Value.slice.inj hRm).1
        obtain ⟨y, hy⟩ : ∃ y, sb.mem[zn]? = some y := ⟨sb.mem[zn]'(by omega), List.getElem?_eq_getElem _⟩
        rw [Int.toNat_natCast, List.getD_eq_getElem?_getD, hy, Option.getD_some] at hdo
        have Hdo := Lib.hid hdo
        have dm := HW4.out.cell (i := 1) (by omega) hR1 (show (wX sb 1)[zn]? = some y from hy)
        have hz2 : (zn : Int) < (ml : Int) := by omega
        have hzp : (0 : Int) ≤ (zn : Int) := Int.natCast_nonneg _
        clear hdo hR1 hl1 hl1s hml hRm hy
        go_upto_region 36 with fail
        go_region
        all_goals
          go_wp2_with fail
          go_end0
          exact HFin.out _ _ Hdo.out (HSet.out y).1.drew (below_drew (HSet.out y).2)
  · have hR1 := HR.out.2.1
    obtain ⟨ml, hml⟩ : ∃ n, sb.mem.length = n := ⟨_, rfl⟩
    have hl1 : (wX sb 1).length = ml := hml
    have hl1s : (wX s 1).length = ml := by rw [← hml, HBeg.out.2.1]; rfl
    rw [hl1s] at hR1
    have k1 : W3.cell? ⟨g, 1, none⟩ = some (.slice A1 ml c1) := (HW4.out.blk.cell 1).trans (by rw [← hR1]; rfl)
    obtain ⟨z, hz⟩ : ∃ z, IntKind.i64.wrap (xa + nn) = z := ⟨_, rfl⟩
    have hdo : doS ⟨34, (dst : Int), (a : Int), (b : Int), nn⟩ c.next cs sb = storeS z xb sb := by
      rw [← hz]
      show storeS (wrap64 (sb.reg (a : Int) + nn)) (sb.reg (b : Int)) sb = _
      rw [HRg.out.1, HRg.out.2, IntKind.wrap_i64]
      simp only [wrap64]
    unfold storeS at hdo
    rw [hml] at hdo
    have HMl := Lib.hid (And.intro hR1 (And.intro hl1 hml))
    by_cases hz0 : z < 0
    · rw [if_neg (by omega)] at hdo
      have HDo := Lib.hid hdo
      clear hdo hR1 hl1 hl1s hml
      go_wp2_with fail
      refine (HEnd.out 3).mono ?_
      rintro e W' ⟨rfl, h1, h2⟩
      have H1 := Lib.hid h1
      have H2 := Lib.hid h2
      clear h1 h2
      go_wp2_with fail
      go_end0
      exact HFin.out _ _ HDo.out H1.out H2.out
    · by_cases hz1 : (ml : Int) ≤ z
      · rw [if_neg (by omega)] at hdo
        have HDo := Lib.hid hdo
        clear hdo hR1 hl1 hl1s hml
        go_wp2_with fail
        refine (HEnd.out 3).mono ?_
        rintro e W' ⟨rfl, h1, h2⟩
        have H1 := Lib.hid h1
        have H2 := Lib.hid h2
        clear h1 h2
        go_wp2_with fail
        go_end0
        exact HFin.out _ _ HDo.out H1.out H2.out
      · rw [if_pos (by omega)] at hdo
        obtain ⟨zn, rfl⟩ := Int.eq_ofNat_of_zero_le (show 0 ≤ z by omega)
        have hzn : zn < ml := by omega
        obtain ⟨bm, cm, hRm, hbm⟩ := HW4.out.got (i := 1) (by omega) (by rw [hl1]; omega)
        rw [hR1] at hRm
        obtain rfl : A1 = some ⟨bm, 0, none⟩ := (Value.slice.inj hRm).1
        obtain ⟨y, hy⟩ : ∃ y, sb.mem[zn]? = some y := ⟨sb.mem[zn]'(by omega), List.getElem?_eq_getElem _⟩
        rw [Int.toNat_natCast] at hdo
        have Hdo := Lib.hid hdo
        have dm := HW4.out.cell (i := 1) (by omega) hR1 (show (wX sb 1)[zn]? = some y from hy)
        have fm := HW4.out.frozen (i := 1) (by omega) hR1 zn
        have hz2 : (zn : Int) < (ml : Int) := by omega
        have hzp : (0 : Int) ≤ (zn : Int) := Int.natCast_nonneg _
        have HGo : Hid (WIs (W3.setCell ⟨bm, zn, none⟩ (.int .i64 xb)) g base inp { sb with mem := sb.mem.set zn xb } ∧ Below base W (W3.setCell ⟨bm, zn, none⟩ (.int .i64 xb))) := Lib.hid
          ⟨⟨R, rd, (HW4.out.set 1 (by omega) hR1 zn xb).congr (fun _ _ => rfl) (fun i hi => by match i, hi with | 0, _ => rfl | 1, _ => rfl | 2, _ => rfl | 3, _ => rfl | 4, _ => rfl | 5, _ => rfl | i + 6, h => omega), HInp.out⟩, HB3.out.setCell (p := ⟨bm, zn, none⟩) hbm _⟩
        clear hdo hR1 hl1 hl1s hml hRm hy
        go_wp2_with fail
        go_end0
        exact HFin.out _ _ Hdo.out HGo.out.1 HGo.out.2
  · obtain ⟨n0, n1⟩ := hwn (.inl rfl)
    obtain ⟨wn, rfl⟩ := Int.eq_ofNat_of_zero_le n0
    have hR2 := HR.out.2.2.1
    have k2 : W3.cell? ⟨g, 2, none⟩ = some (.slice (some ⟨b2, 0, none⟩) (120 * (t + 1)) c2) := (HW4.out.blk.cell 2).trans (by rw [← hR2]; rfl)
    have hcw : c.ws.length = 120 := HSm.out.2.2.2 c.next (by rw [HBeg.out.2.2.1]; exact List.mem_cons_self ..)
    obtain ⟨y, hy⟩ : ∃ y, c.ws[wn]? = some y := ⟨c.ws[wn]'(by omega), List.getElem?_eq_getElem _⟩
    have hfw : (framesW cs).length = 120 * t := by rw [framesW_len cs (fun d hd => HSm.out.2.2.2 d (by rw [HBeg.out.2.2.1]; exact List.mem_cons_of_mem _ hd)), HT.out]
    have hfy : (wX sb 2)[120 * t + wn]? = some y := by
      show (framesW sb.calls)[120 * t + wn]? = _
      rw [HBeg.out.2.2.1, framesW_cons, List.getElem?_append_right (by omega), hfw, show 120 * t + wn - 120 * t = wn by omega]
      exact hy
    have dw := HW4.out.cell (i := 2) (by omega) hR2 hfy
    have fw := HW4.out.frozen (i := 2) (by omega) hR2 (120 * t + wn)
    have hw1 : IntKind.i64.wrap (120 * (t : Int)) = 120 * (t : Int) := by rw [IntKind.wrap_i64]; have := HSm.out.2.1; rw [HBeg.out.2.2.1, List.length_cons, HT.out] at this; omega
    have hw2 : IntKind.i64.wrap (120 * (t : Int) + (wn : Int)) = 120 * (t : Int) + (wn : Int) := by rw [IntKind.wrap_i64]; have := HSm.out.2.1; rw [HBeg.out.2.2.1, List.length_cons, HT.out] at this; omega
    have hp0 : (0 : Int) ≤ 120 * (t : Int) + (wn : Int) := by omega
    have hp1 : 120 * (t : Int) + (wn : Int) < ((120 * (t + 1) : Nat) : Int) := by omega
    have hp2 : (120 * (t : Int) + (wn : Int)).toNat = 120 * t + wn := by omega
    have Hdo : Hid (doS ⟨35, (dst : Int), (a : Int), (b : Int), (wn : Int)⟩ c.next cs sb = sb.set (dst : Int) y) := Lib.hid (by
      show sb.set (dst : Int) (c.ws.getD (wn : Int).toNat 0) = _
      rw [Int.toNat_natCast, List.getD_eq_getElem?_getD, hy]
      rfl)
    clear hR2 hcw hy hfw hfy n0 n1
    go_upto_region 39 with fail
    go_region
    all_goals
      go_wp2_with fail
      go_end0
      exact HFin.out _ _ Hdo.out (HSet.out y).1.drew (below_drew (HSet.out y).2)
  · obtain ⟨n0, n1⟩ := hwn (.inr rfl)
    obtain ⟨wn, rfl⟩ := Int.eq_ofNat_of_zero_le n0
    have hR2 := HR.out.2.2.1
    have k2 : W3.cell? ⟨g, 2, none⟩ = some (.slice (some ⟨b2, 0, none⟩) (120 * (t + 1)) c2) := (HW4.out.blk.cell 2).trans (by rw [← hR2]; rfl)
    have hcw : c.ws.length = 120 := HSm.out.2.2.2 c.next (by rw [HBeg.out.2.2.1]; exact List.mem_cons_self ..)
    obtain ⟨y, hy⟩ : ∃ y, c.ws[wn]? = some y := ⟨c.ws[wn]'(by omega), List.getElem?_eq_getElem _⟩
    have hfw : (framesW cs).length = 120 * t := by rw [framesW_len cs (fun d hd => HSm.out.2.2.2 d (by rw [HBeg.out.2.2.1]; exact List.mem_cons_of_mem _ hd)), HT.out]
    have hfy : (wX sb 2)[120 * t + wn]? = some y := by
      show (framesW sb.calls)[120 * t + wn]? = _
      rw [HBeg.out.2.2.1, framesW_cons, List.getElem?_append_right (by omega), hfw, show 120 * t + wn - 120 * t = wn by omega]
      exact hy
    have dw := HW4.out.cell (i := 2) (by omega) hR2 hfy
    have fw := HW4.out.frozen (i := 2) (by omega) hR2 (120 * t + wn)
    have hw1 : IntKind.i64.wrap (120 * (t : Int)) = 120 * (t : Int) := by rw [IntKind.wrap_i64]; have := HSm.out.2.1; rw [HBeg.out.2.2.1, List.length_cons, HT.out] at this; omega
    have hw2 : IntKind.i64.wrap (120 * (t : Int) + (wn : Int)) = 120 * (t : Int) + (wn : Int) := by rw [IntKind.wrap_i64]; have := HSm.out.2.1; rw [HBeg.out.2.2.1, List.length_cons, HT.out] at this; omega
    have hp0 : (0 : Int) ≤ 120 * (t : Int) + (wn : Int) := by omega
    have hp1 : 120 * (t : Int) + (wn : Int) < ((120 * (t + 1) : Nat) : Int) := by omega
    have hp2 : (120 * (t : Int) + (wn : Int)).toNat = 120 * t + wn := by omega
    have Hdo : Hid (doS ⟨36, (dst : Int), (a : Int), (b : Int), (wn : Int)⟩ c.next cs sb = { sb with calls := { c.next with ws := c.ws.set wn xa } :: cs }) := Lib.hid (by
      show { sb with calls := { c.next with ws := c.ws.set (wn : Int).toNat (sb.reg (a : Int)) } :: cs } = _
      rw [Int.toNat_natCast, HRg.out.1])
    have HGo : Hid (WIs (W3.setCell ⟨b2, 120 * t + wn, none⟩ (.int .i64 xa)) g base inp { sb with calls := { c.next with ws := c.ws.set wn xa } :: cs } ∧ Below base W (W3.setCell ⟨b2, 120 * t + wn, none⟩ (.int .i64 xa))) := Lib.hid
      ⟨⟨R, rd, (HW4.out.set 2 (by omega) hR2 (120 * t + wn) xa).congr (fun _ _ => rfl) (fun i hi => by
        match i, hi with
        | 0, _ => rfl
        | 1, _ => rfl
        | 2, _ =>
          show (framesW sb.calls).set _ _ = framesW (_ :: cs)
          rw [HBeg.out.2.2.1, framesW_cons, framesW_cons, List.set_append_right _ _ (by omega), hfw, show 120 * t + wn - 120 * t = wn by omega]
          rfl
        | 3, _ => show whoW sb.calls = whoW (_ :: cs); rw [HBeg.out.2.2.1, whoW_cons, whoW_cons]
        | 4, _ => show atW sb.calls = atW (_ :: cs); rw [HBeg.out.2.2.1, atW_cons, atW_cons]
        | 5, _ => rfl
        | i + 6, h => omega), HInp.out⟩, HB3.out.setCell (p := ⟨b2, 120 * t + wn, none⟩) (HW4.out.bases (i := 2) (by omega) hR2).1 _⟩
    clear hR2 hcw hy hfw hfy n0 n1
    go_upto_region 41 with fail
    go_region
    all_goals
      go_wp2_with fail
      go_end0
      exact HFin.out _ _ Hdo.out HGo.out.1.drew (below_drew HGo.out.2)
  · obtain ⟨n0, n1⟩ := hrn rfl
    obtain ⟨rn, rfl⟩ := Int.eq_ofNat_of_zero_le n0
    have hR2 := HR.out.2.2.1
    have hR3 := HR.out.2.2.2.1
    have hR4 := HR.out.2.2.2.2.1
    have hl3 : (wX sb 3).length = t + 1 := by show (whoW sb.calls).length = _; rw [whoW_len, HBeg.out.2.2.1, List.length_cons, HT.out]
    have hl4 : (wX sb 4).length = t + 1 := by show (atW sb.calls).length = _; rw [atW_len, HBeg.out.2.2.1, List.length_cons, HT.out]
    have hl2 : (wX sb 2).length = 120 * (t + 1) := by show (framesW sb.calls).length = _; rw [framesW_len _ HSm.out.2.2.2, HBeg.out.2.2.1, List.length_cons, HT.out]
    have hcl : sb.calls.length = t + 1 := by rw [HBeg.out.2.2.1, List.length_cons, HT.out]
    have ht30 : t + 1 ≤ 30 := by have := HSm.out.2.1; omega
    have k3 : W3.cell? ⟨g, 3, none⟩ = some (.slice (some ⟨b3, 0, none⟩) (t + 1) c3) := (HW4.out.blk.cell 3).trans (by rw [← hR3]; rfl)
    have hdo : doS ⟨44, (dst : Int), (a : Int), (b : Int), (rn : Int)⟩ c.next cs sb = callS (rn : Int) sb := rfl
    unfold callS at hdo
    rw [hcl, Int.toNat_natCast] at hdo
    by_cases h30 : t + 1 = 30
    · rw [if_pos h30] at hdo
      have HDo := Lib.hid hdo
      have hgt : (29 : Int) < ((t + 1 : Nat) : Int) := by omega
      have hgt2 : (29 : Int) < (t : Int) + 1 := by omega
      clear hdo hR2 hR3 hR4 hl3 hl4 hl2 hcl h30 htn hrn hwn
      go_wp2_with fail
      refine (HEnd.out 4).mono ?_
      rintro e W' ⟨rfl, h1, h2⟩
      have H1 := Lib.hid h1
      have H2 := Lib.hid h2
      clear h1 h2
      go_wp2_with fail
      go_end0
      exact HFin.out _ _ HDo.out H1.out H2.out
    · rw [if_neg h30] at hdo
      have HDo := Lib.hid hdo
      have hgt : ¬ ((29 : Int) < ((t + 1 : Nat) : Int)) := by omega
      have hgt2 : ¬ ((29 : Int) < (t : Int) + 1) := by omega
      have HL := Lib.hid (And.intro hl2 (And.intro hl3 hl4))
      have HRr := Lib.hid (And.intro hR2 (And.intro hR3 hR4))
      have HRow3 : Hid (W3.ownsRow base 3 1 (.slice (some ⟨b3, 0, none⟩) (t + 1) c3) (t + 1) (intV (wX sb 3))) := Lib.hid (by
        have := HW4.out.rows 3 (by omega)
        rw [hR3, hl3] at this
        exact this)
      have hzb : base ≤ W3.heap.size := by have := HW4.out.blk.lt; omega
      have HZb := Lib.hid hzb
      have k3a : ∀ o, (W3.alloc o).cell? ⟨g, 3, none⟩ = some (.slice (some ⟨b3, 0, none⟩) (t + 1) c3) := fun o => (World.cell?_alloc_lt W3 o ⟨g, 3, none⟩ HW4.out.blk.lt).trans k3
      have HAp : Hid (∀ B4 c4' w4, Appended (W3.alloc (.cells #[.int .i64 (rn : Int)] 3)).drew base 3 1 (.slice (some ⟨b3, 0, none⟩) (t + 1) c3) (t + 1 + 1) (intV (wX sb 3) ++ [.int .i64 (rn : Int)]) (W3.heap.size + 1) (.slice B4 (t + 1 + 1) c4') w4 →
          WAt (w4.setCell ⟨g, 3, none⟩ (.slice B4 (t + 1 + 1) c4')) g base (fun k => if k = 3 then .slice B4 (t + 1 + 1) c4' else R k) (fun k => if k = 3 then wX sb 3 ++ [(rn : Int)] else wX sb k) (rd : Int) sb.state sb.value (sb.steps : Int) sb.over ∧
          Below base W (w4.setCell ⟨g, 3, none⟩ (.slice B4 (t + 1 + 1) c4')) ∧ (∃ v, w4.cell? ⟨g, 3, none⟩ = some v) ∧ w4.frozen? ⟨g, 3, none⟩ = false) := Lib.hid fun B4 c4' w4 hap => by
        have hbl : Below W3.heap.size W3 (W3.alloc (.cells #[.int .i64 (rn : Int)] 3)).drew := below_drew ((Below.refl _ _).alloc (Nat.le_refl _) _)
        have h5 := HW4.out.below hbl
        have hap' : Appended (W3.alloc (.cells #[.int .i64 (rn : Int)] 3)).drew base 3 1 (R 3) ((wX sb 3).length + [(rn : Int)].length) (intV (wX sb 3) ++ intV [(rn : Int)]) (W3.heap.size + 1) (.slice B4 (t + 1 + 1) c4') w4 := by
          rw [HRr.out.2.1, HL.out.2.1]
          exact hap
        have hk := hap'.blk (h5.rows 3 (by omega)) h5.blk (by decide)
        exact ⟨h5.app 3 (by omega) (by show (W3.alloc _).heap.size ≤ _; simp) hap', ((HB3.out.trans (hbl.mono HZb.out)).trans hap.below).setCell (p := ⟨g, 3, none⟩) hg _, ⟨_, hk.cell 3⟩, hk.frozen 3⟩
      clear hdo hR2 hR3 hR4 hl3 hl4 hl2 hcl h30 htn hrn hwn hzb
      go_upto_region 45 with fail
      go_region_law ((refine step_app_src (by rfl) (.tmp 268) (.tmp 271) 26 3 (by rfl) (.int .i64 0) 1 8 Tryd.underlying26 infoInt rfl (by decide) (by decide) base (.slice (some ⟨b3, 0, none⟩) (t + 1) c3) (t + 1) (intV (wX sb 3)) (by rfl) (World.ownsRow.drew (HRow3.out.alloc _)) (some ⟨W3.heap.size, 0, none⟩) 1 1 [.int .i64 (rn : Int)] (by rfl) (by rfl) (fun _ => ⟨_, rfl, cells_new W3 [.int .i64 (rn : Int)] 3 W3.heap.size rfl⟩) (fun u hu => by simp at hu; subst hu; rfl) (by omega) (by have := HZb.out; simp; omega) (W3.heap.size + 1) (by simp) ?_; intro B5 c5' w4 HA4; obtain ⟨hP4, hB4, ⟨v3, e3⟩, ef3⟩ := HAp.out B5 c5' w4 HA4.out; have HP4 := Lib.hid hP4; have HB4 := Lib.hid hB4; clear hP4 hB4))
      all_goals
        go_upto_region 46 with fail
        generalize w4.setCell ⟨g, 3, none⟩ (.slice B5 (t + 1 + 1) c5') = w5 at *
        have k4 : w5.cell? ⟨g, 4, none⟩ = some (.slice (some ⟨b4, 0, none⟩) (t + 1) c4) := (HP4.out.blk.cell 4).trans (by rw [← HRr.out.2.2]; rfl)
        have HRow4 : Hid (w5.ownsRow base 3 1 (.slice (some ⟨b4, 0, none⟩) (t + 1) c4) (t + 1) (intV (wX sb 4))) := Lib.hid (by
          have := HP4.out.rows 4 (by omega)
          simp only [show (4 : Nat) ≠ 3 by decide, if_false] at this
          rw [HRr.out.2.2, HL.out.2.2] at this
          exact this)
        have hz5 : base ≤ w5.heap.size := by have := HP4.out.blk.lt; omega
        clear e3 ef3 k3 k3a
        go_upto_region 47 with (at_builtin; refine app_one rfl _ _ 26 3 rfl (.int .i64 0) 1 8 Tryd.underlying26 infoInt rfl (by decide) (by decide) base (.slice (some ⟨b4, 0, none⟩) (t + 1) c4) (t + 1) (intV (wX sb 4)) (by rfl) HRow4.out _ [.int .i64 0] (by rfl) rfl (fun x hx => by simp at hx; subst hx; rfl) rfl (by omega) hz5 ?_; intro v6 w6 HA6; obtain ⟨Bo, co, hv6⟩ := row_form HA6.out.1; subst hv6; have hk6 := HA6.out.blk HRow4.out HP4.out.blk (by decide); have e4 := hk6.cell 4; have ef4 := hk6.frozen 4; clear hk6)
        have HP6 := Lib.hid (HP4.out.app 4 (by omega) (v' := .slice Bo (t + 1 + 1) co) (ys := [0]) (H := w5.heap.size + 1) (W' := w6) (by omega) (by
          simp only [show (4 : Nat) ≠ 3 by decide, if_false]
          rw [HRr.out.2.2, HL.out.2.2]
          exact HA6.out))
        have HB6 := Lib.hid ((HB4.out.trans HA6.out.below).setCell (p := ⟨g, 4, none⟩) hg (.slice Bo (t + 1 + 1) co))
        clear e4 ef4 k4 hz5
        have HP6' : Hid (WAt (w6.setCell ⟨g, 4, none⟩ (.slice Bo (t + 1 + 1) co)) g base (fun k => if k = 4 then .slice Bo (t + 1 + 1) co else (if k = 3 then .slice B5 (t + 1 + 1) c5' else R k)) (fun k => if k = 4 then wX sb 4 ++ [0] else (if k = 3 then wX sb 3 ++ [(rn : Int)] else wX sb k)) (rd : Int) sb.state sb.value (sb.steps : Int) sb.over) := HP6
        clear HP6
        generalize w6.setCell ⟨g, 4, none⟩ (.slice Bo (t + 1 + 1) co) = w7 at *
        have k2 : w7.cell? ⟨g, 2, none⟩ = some (.slice (some ⟨b2, 0, none⟩) (120 * (t + 1)) c2) := (HP6'.out.blk.cell 2).trans (by rw [← HRr.out.1]; rfl)
        have HRow2 : Hid (w7.ownsRow base 3 1 (.slice (some ⟨b2, 0, none⟩) (120 * (t + 1)) c2) (120 * (t + 1)) (intV (wX sb 2))) := Lib.hid (by
          have := HP6'.out.rows 2 (by omega)
          simp only [show (2 : Nat) ≠ 3 by decide, show (2 : Nat) ≠ 4 by decide, if_false] at this
          rw [HRr.out.1, HL.out.1] at this
          exact this)
        have hz7 : base ≤ w7.heap.size := by have := HP6'.out.blk.lt; omega
        go_wp2_with (at_builtin; refine list_app_made rfl _ _ 26 3 3 rfl .i64 .i64 (.int .i64 0) 8 Tryd.underlying26 Tryd.underlying3 infoInt rfl rfl (by decide) base (.slice (some ⟨b2, 0, none⟩) (120 * (t + 1)) c2) (120 * (t + 1)) (intV (wX sb 2)) (by rfl) HRow2.out 120 (by rfl) (by omega) hz7 w7.heap.size rfl ?_; intro Bf cf w8 HA8; have hk8 := HA8.out.blk HRow2.out HP6'.out.blk (by decide); have e2 := hk8.cell 2; have ef2 := hk8.frozen 2; clear hk8)
        have HP8 := Lib.hid (HP6'.out.app 2 (by omega) (v' := .slice Bf (120 * (t + 1) + 120) cf) (ys := List.replicate 120 0) (H := w7.heap.size) (W' := w8) (Nat.le_refl _) (by
          simp only [show (2 : Nat) ≠ 3 by decide, show (2 : Nat) ≠ 4 by decide, if_false]
          rw [HRr.out.1, HL.out.1, List.length_replicate, show intV (List.replicate 120 0) = List.replicate 120 (.int .i64 0) by unfold intV; rw [List.map_replicate]]
          exact HA8.out))
        have HB8 := Lib.hid ((HB6.out.trans HA8.out.below).setCell (p := ⟨g, 2, none⟩) hg (.slice Bf (120 * (t + 1) + 120) cf))
        clear e2 ef2 k2
        go_end0
        exact HFin.out _ _ HDo.out ⟨_, rd, HP8.out.congr (fun _ _ => rfl) (fun i hi => by
          match i, hi with
          | 0, _ => rfl
          | 1, _ => rfl
          | 2, _ => show framesW sb.calls ++ List.replicate 120 0 = framesW (_ :: sb.calls); rw [framesW_cons]
          | 3, _ => show whoW sb.calls ++ [(rn : Int)] = whoW (_ :: sb.calls); rw [whoW_cons]
          | 4, _ => show atW sb.calls ++ [0] = atW (_ :: sb.calls); rw [atW_cons]; rfl
          | 5, _ => rfl
          | i + 6, h => omega), HInp.out⟩ HB8.out
  · obtain ⟨Ai, ci, hiv, hi1, hi2, hi3⟩ := HIn3.out
    subst hiv
    have HI3 := Lib.hid hi3
    obtain ⟨il, hil⟩ : ∃ n, inp.length = n := ⟨_, rfl⟩
    have HIl := Lib.hid hil
    rw [hil] at hi1 ⊢
    clear hi3
    go_upto_region 56 with fail
    go_cut [] (fun wx => wx = (W3.setCell ⟨b0, dst, none⟩ (.int .i64 (-1))).drew)
    case first =>
      go_region
      all_goals
        go_wp2_with fail
        go_meet
        rfl
    have HW5 : Hid (WAt wc g base R (wX (sb.set (dst : Int) (-1))) (rd : Int) sb.state sb.value (sb.steps : Int) sb.over) := Lib.hid (by
      rw [hcut]
      exact ((HW4.out.set 0 (by omega) HR.out.1 dst (-1)).congr (fun _ _ => rfl) (fun i hi => wX_set sb dst (-1) i hi)).below (below_drew (Below.refl _ _)))
    have HB5 : Hid (Below base W wc) := Lib.hid (by rw [hcut]; exact below_drew (HSet.out (-1)).2)
    have HI5 : Hid (IntsAt wc base (.slice Ai il ci) inp) := Lib.hid (by
      have h := HIn3.out.below (below_drew ((Below.refl base W3).setCell (p := ⟨b0, dst, none⟩) (HW4.out.bases (i := 0) (by omega) HR.out.1).1 (.int .i64 (-1)))) (Nat.le_refl _)
      rw [hil] at h
      rw [hcut]
      exact h)
    have HMm : Hid (Blk wc gx 24 #[.int .i64 46, .int .i64 (dst : Int), .int .i64 (a : Int), .int .i64 (b : Int), .int .i64 nn]) := Lib.hid (by
      obtain ⟨_, cs', hb⟩ := HW4.out.bases (i := 0) (by omega) HR.out.1
      rw [hcut]
      exact HM3.out.far (p := ⟨b0, dst, none⟩) (Blk.types HM3.out hb (by decide)) _)
    clear hcut m0 m1 m4 k0 hxd fd
    have k5 : wc.cell? ⟨g, 5, none⟩ = some (.int .i64 (rd : Int)) := HW5.out.blk.cell 5
    by_cases hlt : rd < il
    · have HLt := Lib.hid hlt
      obtain ⟨x, hx⟩ : ∃ x, inp[rd]? = some x := ⟨inp[rd]'(by omega), List.getElem?_eq_getElem _⟩
      have hrl : (rd : Int) < (il : Int) := by omega
      have hr0 : (0 : Int) ≤ (rd : Int) := Int.natCast_nonneg _
      obtain ⟨bi, oi, hAi, hbi, hci⟩ := (by obtain ⟨A', c', e', _, _, h3⟩ := HI5.out; cases e'; exact h3 (by omega) : ∃ bi oi, Ai = some ⟨bi, oi, none⟩ ∧ bi < base ∧ ∀ (j : Nat) (x : Int), inp[j]? = some x → wc.cell? ⟨bi, oi + j, none⟩ = some (.int .i64 x))
      subst hAi
      have di := hci rd x hx
      have hR1 := HR.out.1
      have k0 : wc.cell? ⟨g, 0, none⟩ = some (.slice (some ⟨b0, 0, none⟩) 16 c0) := (HW5.out.blk.cell 0).trans (by rw [← hR1]; rfl)
      have h16 : (wX (sb.set (dst : Int) (-1)) 0).length = 16 := by show (sb.regs.set _ _).length = 16; rw [List.length_set]; exact HL16.out
      obtain ⟨xd2, hxd⟩ : ∃ x, wc.cell? ⟨b0, dst, none⟩ = some (.int .i64 x) := ⟨_, HW5.out.cell (i := 0) (by omega) hR1 (List.getElem?_eq_getElem (show dst < (wX (sb.set (dst : Int) (-1)) 0).length by rw [h16]; omega))⟩
      have fd := HW5.out.frozen (i := 0) (by omega) hR1 dst
      have m1 : wc.cell? ⟨gx, 1, none⟩ = some (.int .i64 (dst : Int)) := HMm.out.cell 1
      have hin : sb.input = x :: inp.drop (rd + 1) := by
        rw [HInp.out.2, List.drop_eq_getElem_cons (show rd < inp.length by omega)]
        congr 1
        rw [List.getElem?_eq_getElem (by omega)] at hx
        exact Option.some.inj hx
      have HDo : Hid (doS ⟨46, (dst : Int), (a : Int), (b : Int), nn⟩ c.next cs sb = { sb with regs := sb.regs.set dst x, input := inp.drop (rd + 1) }) := Lib.hid (by
        show readM (dst : Int) sb = _
        unfold readM
        rw [hin]
        simp only [Int.toNat_natCast])
      have HW6 : Hid (WAt (wc.setCell ⟨b0, dst, none⟩ (.int .i64 x)) g base R (wX { sb with regs := sb.regs.set dst x, input := inp.drop (rd + 1) }) (rd : Int) sb.state sb.value (sb.steps : Int) sb.over) := Lib.hid
        ((HW5.out.set 0 (by omega) hR1 dst x).congr (fun _ _ => rfl) (fun i hi => by
          match i, hi with
          | 0, _ => show (sb.regs.set (dst : Int).toNat (-1)).set dst x = sb.regs.set dst x; rw [Int.toNat_natCast, List.set_set]
          | 1, _ => rfl
          | 2, _ => rfl
          | 3, _ => rfl
          | 4, _ => rfl
          | 5, _ => rfl
          | i + 6, h => omega))
      have HB6 := Lib.hid (HB5.out.setCell (p := ⟨b0, dst, none⟩) (HW5.out.bases (i := 0) (by omega) hR1).1 (.int .i64 x))
      have hw1 : IntKind.i64.wrap ((rd : Int) + 1) = ((rd + 1 : Nat) : Int) := by rw [IntKind.wrap_i64]; omega
      have HX7 : Hid (il = inp.length) := Lib.hid hil.symm
      clear hx hci hin h16 hR1 hi1 hi2 hbi hlt htn hrn hwn hil HI3
      go_upto_region 58 with fail
      go_region
      all_goals
        have HW7 := Lib.hid (HW6.out.below (below_drew (Below.refl _ _)))
        have HB7 := Lib.hid (below_drew HB6.out)
        clear k5 k0 hxd fd m1 di HW6 HB6
        generalize (wc.setCell ⟨b0, dst, none⟩ (.int .i64 x)).drew = wd at *
        have k5 : wd.cell? ⟨g, 5, none⟩ = some (.int .i64 (rd : Int)) := HW7.out.blk.cell 5
        have f5 := HW7.out.blk.frozen 5
        have HW8 := Lib.hid (HW7.out.rd' ((rd + 1 : Nat) : Int))
        have HB8 := Lib.hid (HB7.out.setCell (p := ⟨g, 5, none⟩) hg (.int .i64 ((rd + 1 : Nat) : Int)))
        go_wp2_with fail
        go_end0
        exact HFin.out _ _ HDo.out ⟨R, rd + 1, HW8.out, by have := HLt.out; rw [← HX7.out]; omega, rfl⟩ HB8.out
    · have hrl : ¬ ((rd : Int) < (il : Int)) := by omega
      have hin : sb.input = [] := by rw [HInp.out.2]; exact List.drop_eq_nil_of_le (by omega)
      have HDo : Hid (doS ⟨46, (dst : Int), (a : Int), (b : Int), nn⟩ c.next cs sb = sb.set (dst : Int) (-1)) := Lib.hid (by
        show readM (dst : Int) sb = _
        unfold readM
        rw [hin])
      clear hin
      go_wp2_with fail
      go_end0
      exact HFin.out _ _ HDo.out ⟨R, rd, HW5.out, HInp.out⟩ HB5.out
end Go.Proofs.YtkiaffaieniebaaDoor
