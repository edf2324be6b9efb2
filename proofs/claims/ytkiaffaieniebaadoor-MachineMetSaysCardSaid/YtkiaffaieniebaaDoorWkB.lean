/-
  The reference machine's step.
  Conditions: the World lies in memory; the instruction is sound; few steps.
-/
import Derived.Test.YtkiaffaieniebaaDoorWkA
import Derived.BigQuiet
import Derived.StillTailTactics
namespace Go.Proofs.YtkiaffaieniebaaDoor
open Go.RowKit

set_option maxHeartbeats 1000000 in
theorem Wends_any (W : World) (g base : Nat) (R : Nat → Value) (X : Nat → List Int) (rd st vl sp x : Int) (ov : Bool) (h : WAt W g base R X rd st vl sp ov) (hg : base ≤ g) :
    Calls Tryd.prog 55 #[.pointer (some ⟨g, 0, none⟩), .int .i64 x] W fun e W' => e = .returned (.tuple #[]) ∧ WAt W' g base R X rd x vl sp true ∧ Below base W W' := by
  have HW := Lib.hid ((h.st' x).ov' true)
  have HB : Hid (Below base W ((W.setCell ⟨g, 6, none⟩ (.int .i64 x)).setCell ⟨g, 10, none⟩ (.bool true))) := Lib.hid (((Below.refl _ _).setCell (p := ⟨g, 6, none⟩) hg _).setCell (p := ⟨g, 10, none⟩) hg _)
  have c6 : W.cell? ⟨g, 6, none⟩ = some (.int .i64 st) := h.blk.cell 6
  have c10 : W.cell? ⟨g, 10, none⟩ = some (.bool ov) := h.blk.cell 10
  have f6 := h.blk.frozen 6
  have f10 := h.blk.frozen 10
  clear h
  go_enter Tryd.func55, Tryd.ntmps55
  go_wp2_with fail
  go_end0
  exact ⟨rfl, HW.out, HB.out⟩
theorem at_next (c : Fr) (cs : List Fr) : (atW (c :: cs)).set cs.length (((c.pc + 1 : Nat) : Int)) = atW (c.next :: cs) := by
  rw [atW_cons, atW_cons, List.set_append_right _ _ (by rw [atW_len]; exact Nat.le_refl _), atW_len, Nat.sub_self]
  rfl
theorem wX_begun (s : Mch) (c : Fr) (cs : List Fr) (hc : s.calls = c :: cs) (i : Nat) (hi : i < 6) : (if i = 4 then (wX s 4).set cs.length ((c.pc + 1 : Nat) : Int) else wX s i) = wX (s.begun c cs) i := by
  match i, hi with
  | 0, _ => rfl
  | 1, _ => rfl
  | 2, _ => show framesW s.calls = framesW (c.next :: cs); rw [hc, framesW_cons, framesW_cons]; rfl
  | 3, _ => show whoW s.calls = whoW (c.next :: cs); rw [hc, whoW_cons, whoW_cons]; rfl
  | 4, _ => show (atW s.calls).set _ _ = atW (c.next :: cs); rw [hc, at_next]
  | 5, _ => rfl
  | i + 6, h => omega
set_option maxRecDepth 100000 in
set_option maxHeartbeats 2000000 in
theorem StepA_any (m : Mac) (hsel : m.op = 1 ∨ m.op = 2 ∨ m.op = 3 ∨ m.op = 4 ∨ (5 ≤ m.op ∧ m.op ≤ 18) ∨ (19 ≤ m.op ∧ m.op ≤ 32) ∨ (37 ≤ m.op ∧ m.op ≤ 43) ∨ m.op = 45 ∨ m.op = 47) (len rts : Nat) (W : World) (g base : Nat) (codes : List (List Mac)) (inp : List Int) (iv : Value) (s : Mch) (c : Fr) (cs : List Fr) (h : WIs W g base inp s) (hc : s.calls = c :: cs) (hG : GoodS codes s) (hm : GoodM m len rts)
    (hpc : c.pc < 5000) (hst : s.steps < 1000000) (hin : IntsAt W base iv inp) (hg : base ≤ g) :
    Calls Tryd.prog 40 #[.pointer (some ⟨g, 0, none⟩), macV m, iv] W fun e W' => e = .returned (.tuple #[]) ∧ WIs W' g base inp (doS m c.next cs (s.begun c cs)) ∧ Below base W W' := by
  obtain ⟨R, rd, hW, hrd, hinp⟩ := h
  have hr16 := hG.regs
  have ho := hG.out
  have hcl := hG.calls
  have hml := hG.mem
  have hil := hG.input
  have hws : ∀ d ∈ s.calls, d.ws.length = 120 := fun d hd => by obtain ⟨_, _, _, h⟩ := hG.frs d hd; exact h
  obtain ⟨t, ht⟩ : ∃ t, cs.length = t := ⟨_, rfl⟩
  have hwl : (wX s 3).length = t + 1 := by show (whoW s.calls).length = _; rw [whoW_len, hc, List.length_cons, ht]
  have hal : (wX s 4).length = t + 1 := by show (atW s.calls).length = _; rw [atW_len, hc, List.length_cons, ht]
  have hfl : (wX s 2).length = 120 * (t + 1) := by show (framesW s.calls).length = _; rw [framesW_len _ hws, hc, List.length_cons, ht]
  have h0l : (wX s 0).length = 16 := hr16
  obtain ⟨b0, c0, hR0, _⟩ := hW.got (i := 0) (by omega) (by omega)
  obtain ⟨b2, c2, hR2, _⟩ := hW.got (i := 2) (by omega) (by omega)
  obtain ⟨b3, c3, hR3, _⟩ := hW.got (i := 3) (by omega) (by omega)
  obtain ⟨b4, c4, hR4, hb4⟩ := hW.got (i := 4) (by omega) (by omega)
  obtain ⟨A1, c1, hR1⟩ := hW.form (i := 1) (by omega)
  obtain ⟨A5, c5, hR5⟩ := hW.form (i := 5) (by omega)
  rw [h0l] at hR0
  rw [hfl] at hR2
  rw [hwl] at hR3
  rw [hal] at hR4
  obtain ⟨op, dst, a, b, nn⟩ := m
  obtain ⟨o1, o2, d1, d2, a1, a2, b1, b2', hwn, htn, hrn⟩ := hm
  simp only at hsel o1 o2 d1 d2 a1 a2 b1 b2' hwn htn hrn
  obtain ⟨dst, rfl⟩ := Int.eq_ofNat_of_zero_le d1
  obtain ⟨a, rfl⟩ := Int.eq_ofNat_of_zero_le a1
  obtain ⟨b, rfl⟩ := Int.eq_ofNat_of_zero_le b1
  have hbox : Below W.heap.size W (W.alloc (.cells #[.int .i64 op, .int .i64 (dst : Int), .int .i64 (a : Int), .int .i64 (b : Int), .int .i64 nn] 24)) := (Below.refl _ _).alloc (Nat.le_refl _) _
  have HBox := Lib.hid hbox
  have HMk : Hid (Blk (W.alloc (.cells #[.int .i64 op, .int .i64 (dst : Int), .int .i64 (a : Int), .int .i64 (b : Int), .int .i64 nn] 24)) W.heap.size 24 #[.int .i64 op, .int .i64 (dst : Int), .int .i64 (a : Int), .int .i64 (b : Int), .int .i64 nn]) := Lib.hid (Blk.new _ _ _)
  have HW1 := Lib.hid (hW.below hbox)
  have HB0 : Hid (base ≤ W.heap.size) := Lib.hid (by have := hW.blk.lt; omega)
  have HR := Lib.hid (And.intro hR0 (And.intro hR1 (And.intro hR2 (And.intro hR3 (And.intro hR4 hR5)))))
  have HIn := Lib.hid (hin.below hbox HB0.out)
  have HLen := Lib.hid (And.intro ho (And.intro hcl (And.intro hml (And.intro hil hws))))
  have HRd := Lib.hid (And.intro hrd hinp)
  have HC := Lib.hid hc
  have HT := Lib.hid ht
  obtain ⟨xa, hxa⟩ : ∃ x, s.regs[a]? = some x := ⟨s.regs[a]'(by omega), List.getElem?_eq_getElem _⟩
  obtain ⟨xb, hxb⟩ : ∃ x, s.regs[b]? = some x := ⟨s.regs[b]'(by omega), List.getElem?_eq_getElem _⟩
  have ea : s.reg (a : Int) = xa := by unfold Mch.reg; rw [Int.toNat_natCast, List.getD_eq_getElem?_getD, hxa]; rfl
  have eb : s.reg (b : Int) = xb := by unfold Mch.reg; rw [Int.toNat_natCast, List.getD_eq_getElem?_getD, hxb]; rfl
  have hpcx : (wX s 4)[t]? = some (c.pc : Int) := by show (atW s.calls)[t]? = _; rw [hc, atW_cons, List.getElem?_append_right (by rw [atW_len, ht]; exact Nat.le_refl _), atW_len, ht, Nat.sub_self]; rfl
  have HX := Lib.hid (And.intro hxa (And.intro hxb (And.intro ea (And.intro eb hpcx))))
  have HL16 : Hid ((wX (s.begun c cs) 0).length = 16) := Lib.hid h0l
  obtain ⟨PE, hPE⟩ : ∃ PE : Ending → World → Prop, (fun e W' => e = .returned (.tuple #[]) ∧ WIs W' g base inp (doS ⟨op, (dst : Int), (a : Int), (b : Int), nn⟩ c.next cs (s.begun c cs)) ∧ Below base W W') = PE := ⟨_, rfl⟩
  rw [hPE]
  have HPE := Lib.hid hPE
  unfold macV
  clear hPE hW hrd hinp hr16 ho hcl hml hil hws hwl hal hfl h0l hR0 hR1 hR2 hR3 hR4 hR5 hbox hin hc ht hxa hxb ea eb hpcx hG
  go_enter Tryd.func40, Tryd.ntmps40
  go_upto_region 1 with fail
  generalize W.alloc (.cells #[.int .i64 op, .int .i64 (dst : Int), .int .i64 (a : Int), .int .i64 (b : Int), .int .i64 nn] 24) = W1 at *
  have hR := HR.out
  have k0 : W1.cell? ⟨g, 0, none⟩ = some (.slice (some ⟨b0, 0, none⟩) 16 c0) := (HW1.out.blk.cell 0).trans (by rw [← hR.1]; rfl)
  have k3 : W1.cell? ⟨g, 3, none⟩ = some (.slice (some ⟨b3, 0, none⟩) (t + 1) c3) := (HW1.out.blk.cell 3).trans (by rw [← hR.2.2.2.1]; rfl)
  have k4 : W1.cell? ⟨g, 4, none⟩ = some (.slice (some ⟨b4, 0, none⟩) (t + 1) c4) := (HW1.out.blk.cell 4).trans (by rw [← hR.2.2.2.2.1]; rfl)
  have k9 : W1.cell? ⟨g, 9, none⟩ = some (.int .i64 (s.steps : Int)) := HW1.out.blk.cell 9
  have m2 : W1.cell? ⟨W.heap.size, 2, none⟩ = some (.int .i64 (a : Int)) := HMk.out.cell 2
  have m3 : W1.cell? ⟨W.heap.size, 3, none⟩ = some (.int .i64 (b : Int)) := HMk.out.cell 3
  have ra := HW1.out.cell (i := 0) (by omega) hR.1 HX.out.1
  have rb := HW1.out.cell (i := 0) (by omega) hR.1 HX.out.2.1
  have pc0 := HW1.out.cell (i := 4) (by omega) hR.2.2.2.2.1 HX.out.2.2.2.2
  have f4 := HW1.out.frozen (i := 4) (by omega) hR.2.2.2.2.1 t
  have f9 := HW1.out.blk.frozen 9
  have hw1 : IntKind.i64.wrap (t : Int) = (t : Int) := by rw [IntKind.wrap_i64]; have := HLen.out.2.1; rw [HC.out, List.length_cons, HT.out] at this; omega
  have hw2 : IntKind.i64.wrap ((c.pc : Int) + 1) = ((c.pc + 1 : Nat) : Int) := by rw [IntKind.wrap_i64]; omega
  have hw3 : IntKind.i64.wrap ((s.steps : Int) + 1) = ((s.steps + 1 : Nat) : Int) := by rw [IntKind.wrap_i64]; omega
  have ha0 : (0 : Int) ≤ (a : Int) := Int.natCast_nonneg _
  have hb0 : (0 : Int) ≤ (b : Int) := Int.natCast_nonneg _
  have ht0 : (0 : Int) ≤ (t : Int) := Int.natCast_nonneg _
  have ht1 : (t : Int) < ((t + 1 : Nat) : Int) := by omega
  clear hR
  go_wp2_with fail
  go_quiet (fail)
  go_upto_region 3 with fail
  go_quiet (fail)
  go_upto_region 5 with fail
  generalize hWq : W1.drewN _ = Wq at *
  have HWq : Hid (WAt Wq g base R (wX s) (rd : Int) s.state s.value (s.steps : Int) s.over) := Lib.hid (by rw [← hWq]; exact HW1.out.below (below_drewN (Below.refl _ _) _))
  have HBq : Hid (Below W.heap.size W Wq) := Lib.hid (by rw [← hWq]; exact below_drewN HBox.out _)
  have HMq : Hid (Blk Wq W.heap.size 24 #[.int .i64 op, .int .i64 (dst : Int), .int .i64 (a : Int), .int .i64 (b : Int), .int .i64 nn]) := Lib.hid (by rw [← hWq]; exact HMk.out)
  have HInq : Hid (IntsAt Wq base iv inp) := Lib.hid (by rw [← hWq]; exact HIn.out)
  clear hWq k0 k3 k4 k9 m2 m3 ra rb pc0 f4 f9 HW1 HMk HIn HBox hw1 hw2
  have hR4 := HR.out.2.2.2.2.1
  have HW2 := Lib.hid (HWq.out.set 4 (by omega) hR4 t (((c.pc + 1 : Nat) : Int)))
  have hlo4 : base ≤ b4 := hb4
  have HM2 := Lib.hid (HMq.out.far (p := ⟨b4, t, none⟩) (by obtain ⟨_, cs', hb⟩ := HWq.out.bases (i := 4) (by omega) hR4; exact Blk.types HMq.out hb (by decide)) (.int .i64 (((c.pc + 1 : Nat) : Int))))
  have HB2 := Lib.hid ((HBq.out.mono HB0.out).setCell (p := ⟨b4, t, none⟩) hlo4 (.int .i64 (((c.pc + 1 : Nat) : Int))))
  have HIn2 := Lib.hid (HInq.out.below (((Below.refl base Wq).setCell (p := ⟨b4, t, none⟩) hlo4 (.int .i64 (((c.pc + 1 : Nat) : Int))))) (Nat.le_refl _))
  rw [show ((c.pc : Int) + 1) = (((c.pc + 1 : Nat) : Int)) by omega]
  clear hR4 HWq HBq HMq HInq
  generalize Wq.setCell ⟨b4, t, none⟩ (.int .i64 (((c.pc + 1 : Nat) : Int))) = W2 at *
  have k9 : W2.cell? ⟨g, 9, none⟩ = some (.int .i64 (s.steps : Int)) := HW2.out.blk.cell 9
  have f9 := HW2.out.blk.frozen 9
  go_upto_region 6 with fail
  have HW3 := Lib.hid (HW2.out.sp' ((s.steps + 1 : Nat) : Int))
  have HM3 := Lib.hid (HM2.out.far (p := ⟨g, 9, none⟩) (Blk.types HM2.out HW2.out.blk (by decide)) (.int .i64 ((s.steps + 1 : Nat) : Int)))
  have HB3 := Lib.hid (HB2.out.setCell (p := ⟨g, 9, none⟩) hg (.int .i64 ((s.steps + 1 : Nat) : Int)))
  have HIn3 := Lib.hid (HIn2.out.below (((Below.refl base W2).setCell (p := ⟨g, 9, none⟩) hg (.int .i64 ((s.steps + 1 : Nat) : Int)))) (Nat.le_refl _))
  rw [show ((s.steps : Int) + 1) = ((s.steps + 1 : Nat) : Int) by omega]
  clear k9 f9 HW2 HM2 HB2 HIn2 hw3
  generalize W2.setCell ⟨g, 9, none⟩ (.int .i64 ((s.steps + 1 : Nat) : Int)) = W3 at *
  have HW4 : Hid (WAt W3 g base R (wX (s.begun c cs)) (rd : Int) (s.begun c cs).state (s.begun c cs).value ((s.begun c cs).steps : Int) (s.begun c cs).over) := Lib.hid (HW3.out.congr (fun _ _ => rfl) fun i hi => by
    have := wX_begun s c cs HC.out i hi
    rw [HT.out] at this
    exact this)
  have HBeg : Hid ((s.begun c cs).regs = s.regs ∧ (s.begun c cs).mem = s.mem ∧ (s.begun c cs).calls = c.next :: cs ∧ (s.begun c cs).input = s.input ∧ (s.begun c cs).out = s.out) := Lib.hid ⟨rfl, rfl, rfl, rfl, rfl⟩
  have HRg : Hid ((s.begun c cs).reg (a : Int) = xa ∧ (s.begun c cs).reg (b : Int) = xb) := Lib.hid ⟨HX.out.2.2.1, HX.out.2.2.2.1⟩
  obtain ⟨gx, hgx⟩ : ∃ x, W.heap.size = x := ⟨_, rfl⟩
  rw [hgx] at HM3 ⊢
  have m0 : W3.cell? ⟨gx, 0, none⟩ = some (.int .i64 op) := HM3.out.cell 0
  have m1 : W3.cell? ⟨gx, 1, none⟩ = some (.int .i64 (dst : Int)) := HM3.out.cell 1
  have m4 : W3.cell? ⟨gx, 4, none⟩ = some (.int .i64 nn) := HM3.out.cell 4
  have hR := HR.out
  have k0 : W3.cell? ⟨g, 0, none⟩ = some (.slice (some ⟨b0, 0, none⟩) 16 c0) := (HW4.out.blk.cell 0).trans (by rw [← hR.1]; rfl)
  have rd0 : ∀ j : Nat, j < 16 → ∃ x, W3.cell? ⟨b0, j, none⟩ = some (.int .i64 x) := fun j hj => by
    have h16 : (wX (s.begun c cs) 0).length = 16 := HL16.out
    exact ⟨_, HW4.out.cell (i := 0) (by omega) hR.1 (List.getElem?_eq_getElem (by rw [h16]; exact hj))⟩
  obtain ⟨xd, hxd⟩ := rd0 dst (by omega)
  have fd := HW4.out.frozen (i := 0) (by omega) hR.1 dst
  have hd0 : (0 : Int) ≤ (dst : Int) := Int.natCast_nonneg _
  clear hR rd0 hgx HW3
  have HFin : Hid (∀ W' s', doS ⟨op, (dst : Int), (a : Int), (b : Int), nn⟩ c.next cs (s.begun c cs) = s' → WIs W' g base inp s' → Below base W W' → PE (.returned (.tuple #[])) W') := Lib.hid fun W' s' e h1 h2 => by rw [← HPE.out, e]; exact ⟨rfl, h1, h2⟩
  have HInp : Hid (rd ≤ inp.length ∧ (s.begun c cs).input = inp.drop rd) := Lib.hid HRd.out
  have HSm : Hid ((s.begun c cs).out.length ≤ 200 ∧ (s.begun c cs).calls.length ≤ 30 ∧ (s.begun c cs).mem.length ≤ 200 ∧ (∀ d ∈ (s.begun c cs).calls, d.ws.length = 120)) := Lib.hid ⟨HLen.out.1, by have := HLen.out.2.1; rw [HC.out] at this; exact this, HLen.out.2.2.1, fun d hd => by
    rw [HBeg.out.2.2.1, List.mem_cons] at hd
    rcases hd with rfl | hd
    · exact HLen.out.2.2.2.2 c (by rw [HC.out]; exact List.mem_cons_self ..)
    · exact HLen.out.2.2.2.2 d (by rw [HC.out]; exact List.mem_cons_of_mem _ hd)⟩
  generalize s.begun c cs = sb at *
  have HSet : Hid (∀ v : Int, WIs (W3.setCell ⟨b0, dst, none⟩ (.int .i64 v)) g base inp (sb.set (dst : Int) v) ∧ Below base W (W3.setCell ⟨b0, dst, none⟩ (.int .i64 v))) := Lib.hid fun v =>
    ⟨⟨R, rd, (HW4.out.set 0 (by omega) HR.out.1 dst v).congr (fun _ _ => rfl) (fun i hi => wX_set sb dst v i hi), HInp.out⟩, HB3.out.setCell (p := ⟨b0, dst, none⟩) (HW4.out.bases (i := 0) (by omega) HR.out.1).1 _⟩
  have HEnd : Hid (∀ x : Int, Calls Tryd.prog 55 #[.pointer (some ⟨g, 0, none⟩), .int .i64 x] W3 fun e W' => e = .returned (.tuple #[]) ∧ WIs W' g base inp (sb.ends x) ∧ Below base W W') := Lib.hid fun x => by
    refine (Wends_any W3 g base R (wX sb) (rd : Int) sb.state sb.value (sb.steps : Int) x sb.over HW4.out hg).mono ?_
    rintro e W' ⟨rfl, h1, h2⟩
    exact ⟨rfl, ⟨R, rd, h1.congr (fun _ _ => rfl) (fun i hi => by match i, hi with | 0, _ => rfl | 1, _ => rfl | 2, _ => rfl | 3, _ => rfl | 4, _ => rfl | 5, _ => rfl | i + 6, h => omega), HInp.out⟩, HB3.out.trans h2⟩
  clear HPE HX HLen HC HRd
  rcases hsel with rfl | rfl | rfl | rfl | hr | hr | hr | rfl | rfl
  · have Hdo : Hid (doS ⟨1, (dst : Int), (a : Int), (b : Int), nn⟩ c.next cs sb = sb.set (dst : Int) nn) := Lib.hid rfl
    go_upto_region 23 with fail
    go_region
    all_goals
      go_wp2_with fail
      go_end0
      exact HFin.out _ _ Hdo.out (HSet.out nn).1.drew (below_drew (HSet.out nn).2)
  · have Hdo : Hid (doS ⟨2, (dst : Int), (a : Int), (b : Int), nn⟩ c.next cs sb = sb.set (dst : Int) xa) := Lib.hid (by show sb.set (dst : Int) (sb.reg (a : Int)) = _; rw [HRg.out.1])
    go_upto_region 25 with fail
    go_region
    all_goals
      go_wp2_with fail
      go_end0
      exact HFin.out _ _ Hdo.out (HSet.out xa).1.drew (below_drew (HSet.out xa).2)
  · have Hdo : Hid (doS ⟨3, (dst : Int), (a : Int), (b : Int), nn⟩ c.next cs sb = sb.set (dst : Int) (wrap64 (-xa))) := Lib.hid (by show sb.set (dst : Int) (wrap64 (-(sb.reg (a : Int)))) = _; rw [HRg.out.1])
    go_upto_region 27 with fail
    go_region
    all_goals
      go_wp2_with fail
      go_end0
      exact HFin.out _ _ Hdo.out (HSet.out (wrap64 (-xa))).1.drew (below_drew (HSet.out (wrap64 (-xa))).2)
  · have Hdo : Hid (doS ⟨4, (dst : Int), (a : Int), (b : Int), nn⟩ c.next cs sb = sb.set (dst : Int) (wrap64 (-xa - 1))) := Lib.hid (by show sb.set (dst : Int) (wrap64 (-(sb.reg (a : Int)) - 1)) = _; rw [HRg.out.1])
    have hww : wrap64 (wrap64 (-xa) - 1) = wrap64 (-xa - 1) := by unfold wrap64; omega
    go_upto_region 29 with fail
    go_region
    all_goals
      go_wp2_with fail
      go_end0
      exact HFin.out _ _ Hdo.out (HSet.out (wrap64 (-xa - 1))).1.drew (below_drew (HSet.out (wrap64 (-xa - 1))).2)
  · obtain ⟨p1, p2⟩ := hr
    have hdo : doS ⟨op, (dst : Int), (a : Int), (b : Int), nn⟩ c.next cs sb = reckS (op - 3) (dst : Int) xa xb sb := by unfold doS; rw [if_pos (show 5 ≤ op ∧ op ≤ 18 from ⟨p1, p2⟩), HRg.out.1, HRg.out.2]
    obtain ⟨⟨v, ok⟩, htw⟩ : ∃ f, twoS (op - 3) xa xb = f := ⟨_, rfl⟩
    unfold reckS at hdo
    rw [htw] at hdo
    have HDo := Lib.hid hdo
    have HTw := Lib.hid htw
    have q1 : 5 ≤ op := by omega
    have q2 : op ≤ 32 := by omega
    have hw : IntKind.i64.wrap (op - 3) = op - 3 := by rw [IntKind.wrap_i64]; omega
    have q3 : ¬ ((15 : Int) < op - 3) := by omega
    clear hdo htw
    go_wp2_with fail
    refine (RTwo_any (op - 3) xa xb W3 (by omega) (by omega)).mono ?_
    rintro e w' ⟨rfl, rfl⟩
    rw [HTw.out]
    cases ok
    · go_wp2_with fail
      refine (HEnd.out 2).mono ?_
      rintro e W' ⟨rfl, h1, h2⟩
      have H1 := Lib.hid h1
      have H2 := Lib.hid h2
      clear h1 h2
      go_wp2_with fail
      go_end0
      exact HFin.out _ _ HDo.out H1.out H2.out
    · have Hdo : Hid (doS ⟨op, (dst : Int), (a : Int), (b : Int), nn⟩ c.next cs sb = sb.set (dst : Int) v) := HDo
      go_upto_region 14 with fail
      go_region
      all_goals
        go_wp2_with fail
        go_end0
        exact HFin.out _ _ Hdo.out (HSet.out v).1.drew (below_drew (HSet.out v).2)
  · obtain ⟨p1, p2⟩ := hr
    have hdo : doS ⟨op, (dst : Int), (a : Int), (b : Int), nn⟩ c.next cs sb = reckS (op - 17) (dst : Int) xa nn sb := by unfold doS; rw [if_neg (show ¬ (5 ≤ op ∧ op ≤ 18) by omega), if_pos (show 19 ≤ op ∧ op ≤ 32 from ⟨p1, p2⟩), HRg.out.1]
    obtain ⟨⟨v, ok⟩, htw⟩ : ∃ f, twoS (op - 17) xa nn = f := ⟨_, rfl⟩
    unfold reckS at hdo
    rw [htw] at hdo
    have HDo := Lib.hid hdo
    have HTw := Lib.hid htw
    have q1 : 5 ≤ op := by omega
    have q2 : op ≤ 32 := by omega
    have hw : IntKind.i64.wrap (op - 3) = op - 3 := by rw [IntKind.wrap_i64]; omega
    have hw2 : IntKind.i64.wrap (op - 3 - 14) = op - 17 := by rw [IntKind.wrap_i64]; omega
    have q3 : (15 : Int) < op - 3 := by omega
    clear hdo htw
    go_wp2_with fail
    refine (RTwo_any (op - 17) xa nn W3 (by omega) (by omega)).mono ?_
    rintro e w' ⟨rfl, rfl⟩
    rw [HTw.out]
    cases ok
    · go_wp2_with fail
      refine (HEnd.out 2).mono ?_
      rintro e W' ⟨rfl, h1, h2⟩
      have H1 := Lib.hid h1
      have H2 := Lib.hid h2
      clear h1 h2
      go_wp2_with fail
      go_end0
      exact HFin.out _ _ HDo.out H1.out H2.out
    · have Hdo : Hid (doS ⟨op, (dst : Int), (a : Int), (b : Int), nn⟩ c.next cs sb = sb.set (dst : Int) v) := HDo
      go_upto_region 14 with fail
      go_region
      all_goals
        go_wp2_with fail
        go_end0
        exact HFin.out _ _ Hdo.out (HSet.out v).1.drew (below_drew (HSet.out v).2)
  · obtain ⟨p1, p2⟩ := hr
    have hdo : doS ⟨op, (dst : Int), (a : Int), (b : Int), nn⟩ c.next cs sb = (if goesS op xa xb then { sb with calls := { c.next with pc := nn.toNat } :: cs } else sb) := by
      unfold doS
      rw [if_neg (show ¬ (5 ≤ op ∧ op ≤ 18) by omega), if_neg (show ¬ (19 ≤ op ∧ op ≤ 32) by omega), if_pos (show 37 ≤ op ∧ op ≤ 43 from ⟨p1, p2⟩), HRg.out.1, HRg.out.2]
    obtain ⟨gb, hgb⟩ : ∃ q, goesS op xa xb = q := ⟨_, rfl⟩
    rw [hgb] at hdo
    have HDo := Lib.hid hdo
    have HGb := Lib.hid hgb
    obtain ⟨n0, n1⟩ := htn ⟨p1, p2⟩
    obtain ⟨jn, rfl⟩ := Int.eq_ofNat_of_zero_le n0
    have q1 : 5 ≤ op := by omega
    have q2 : ¬ (op ≤ 32) := by omega
    clear hdo hgb
    go_wp2_with fail
    refine (jumps_any op xa xb W3 p1 p2).mono ?_
    rintro e w' ⟨rfl, rfl⟩
    rw [HGb.out]
    cases gb
    · go_wp2_with fail
      go_end0
      exact HFin.out _ _ HDo.out ⟨R, rd, HW4.out, HInp.out⟩ HB3.out
    · have hR4 := HR.out.2.2.2.2.1
      have k4 : W3.cell? ⟨g, 4, none⟩ = some (.slice (some ⟨b4, 0, none⟩) (t + 1) c4) := (HW4.out.blk.cell 4).trans (by rw [← hR4]; rfl)
      have hpc1 : (wX sb 4)[t]? = some ((c.pc + 1 : Nat) : Int) := by
        show (atW sb.calls)[t]? = _
        rw [HBeg.out.2.2.1, atW_cons, List.getElem?_append_right (by rw [atW_len, HT.out]; exact Nat.le_refl _), atW_len, HT.out, Nat.sub_self]
        rfl
      have d4 := HW4.out.cell (i := 4) (by omega) hR4 hpc1
      have f4 := HW4.out.frozen (i := 4) (by omega) hR4 t
      have HGo : Hid (WIs (W3.setCell ⟨b4, t, none⟩ (.int .i64 (jn : Int))) g base inp { sb with calls := { c.next with pc := (jn : Int).toNat } :: cs } ∧ Below base W (W3.setCell ⟨b4, t, none⟩ (.int .i64 (jn : Int)))) := Lib.hid
        ⟨⟨R, rd, (HW4.out.set 4 (by omega) hR4 t (jn : Int)).congr (fun _ _ => rfl) (fun i hi => by
          have := wX_jump sb c.next cs HBeg.out.2.2.1 jn i hi
          rw [HT.out] at this
          exact this), HInp.out⟩, HB3.out.setCell (p := ⟨b4, t, none⟩) hb4 _⟩
      clear hpc1 hR4
      go_upto_region 17 with fail
      go_region
      all_goals
        go_wp2_with fail
        go_end0
        exact HFin.out _ _ HDo.out HGo.out.1.drew (below_drew HGo.out.2)
  · have hR2 := HR.out.2.2.1
    have hR3 := HR.out.2.2.2.1
    have hR4 := HR.out.2.2.2.2.1
    have hws' : ∀ d ∈ cs, d.ws.length = 120 := fun d hd => HSm.out.2.2.2 d (by rw [HBeg.out.2.2.1]; exact List.mem_cons_of_mem _ hd)
    have hfw : (framesW cs).length = 120 * t := by rw [framesW_len cs hws', HT.out]
    have hcn : c.next.ws.length = 120 := HSm.out.2.2.2 c.next (by rw [HBeg.out.2.2.1]; exact List.mem_cons_self ..)
    have hx3 : wX sb 3 = whoW cs ++ [(c.next.r : Int)] := by show whoW sb.calls = _; rw [HBeg.out.2.2.1, whoW_cons]
    have hx4 : wX sb 4 = atW cs ++ [(c.next.pc : Int)] := by show atW sb.calls = _; rw [HBeg.out.2.2.1, atW_cons]
    have hx2 : wX sb 2 = framesW cs ++ c.next.ws := by show framesW sb.calls = _; rw [HBeg.out.2.2.1, framesW_cons]
    have cap : ∀ {i : Nat}, i < 6 → ∀ {b n k : Nat}, R i = .slice (some ⟨b, 0, none⟩) n k → n ≤ k := fun {i} hi {b n k} hR => by
      rcases (HW4.out.rows i hi).2 with ⟨e, _⟩ | ⟨b', c', cur, e, _, _, hnc, _⟩
      · rw [hR] at e; cases e
      · have hn := hnc
        rw [hR] at e
        cases e
        exact hn
    have q3 := cap (by omega) hR3
    have q4 := cap (by omega) hR4
    have q2 := cap (by omega) hR2
    have k2 : W3.cell? ⟨g, 2, none⟩ = some (.slice (some ⟨b2, 0, none⟩) (120 * (t + 1)) c2) := (HW4.out.blk.cell 2).trans (by rw [← hR2]; rfl)
    have k3 : W3.cell? ⟨g, 3, none⟩ = some (.slice (some ⟨b3, 0, none⟩) (t + 1) c3) := (HW4.out.blk.cell 3).trans (by rw [← hR3]; rfl)
    have k4 : W3.cell? ⟨g, 4, none⟩ = some (.slice (some ⟨b4, 0, none⟩) (t + 1) c4) := (HW4.out.blk.cell 4).trans (by rw [← hR4]; rfl)
    have g2 := HW4.out.blk.frozen 2
    have g3 := HW4.out.blk.frozen 3
    have g4 := HW4.out.blk.frozen 4
    have ht30 : t ≤ 30 := by have := HSm.out.2.1; rw [HBeg.out.2.2.1, List.length_cons, HT.out] at this; omega
    have hw1 : IntKind.i64.wrap (120 * (t : Int)) = 120 * (t : Int) := by rw [IntKind.wrap_i64]; omega
    have hs1 : (t : Int) ≤ (c3 : Int) := by omega
    have hs2 : (t : Int) ≤ (c4 : Int) := by omega
    have hs3 : 120 * (t : Int) ≤ (c2 : Int) := by omega
    have hs4 : (0 : Int) ≤ 120 * (t : Int) := by omega
    have hs5 : (120 * (t : Int)).toNat = 120 * t := by omega
    have HW5 := Lib.hid (HW4.out.cut 3 (by omega) hR3 (k := t) (by rw [hx3, List.length_append, whoW_len, HT.out]; omega))
    have HW6 := Lib.hid (HW5.out.cut 4 (by omega) (b := b4) (n := t + 1) (c := c4) (by simp only [show (4 : Nat) ≠ 3 by decide, if_false]; exact hR4) (k := t) (by simp only [show (4 : Nat) ≠ 3 by decide, if_false]; rw [hx4, List.length_append, atW_len, HT.out]; omega))
    have HW7 := Lib.hid (HW6.out.cut 2 (by omega) (b := b2) (n := 120 * (t + 1)) (c := c2) (by simp only [show (2 : Nat) ≠ 4 by decide, show (2 : Nat) ≠ 3 by decide, if_false]; exact hR2) (k := 120 * t) (by simp only [show (2 : Nat) ≠ 4 by decide, show (2 : Nat) ≠ 3 by decide, if_false]; rw [hx2, List.length_append, hfw]; omega))
    have HXs : Hid (∀ i, i < 6 → (fun j => if j = 2 then ((fun j => if j = 4 then ((fun j => if j = 3 then (wX sb 3).take t else wX sb j) 4).take t else (fun j => if j = 3 then (wX sb 3).take t else wX sb j) j) 2).take (120 * t) else (fun j => if j = 4 then ((fun j => if j = 3 then (wX sb 3).take t else wX sb j) 4).take t else (fun j => if j = 3 then (wX sb 3).take t else wX sb j) j) j) i = wX { sb with calls := cs } i) := Lib.hid fun i hi => by
      match i, hi with
      | 0, _ => rfl
      | 1, _ => rfl
      | 2, _ => show (wX sb 2).take (120 * t) = framesW cs; rw [hx2, List.take_left' hfw]
      | 3, _ => show (wX sb 3).take t = whoW cs; rw [hx3, List.take_left' (by rw [whoW_len, HT.out])]
      | 4, _ => show (wX sb 4).take t = atW cs; rw [hx4, List.take_left' (by rw [atW_len, HT.out])]
      | 5, _ => rfl
      | i + 6, h => omega
    have HB7 : Hid (Below base W (((W3.setCell ⟨g, 3, none⟩ (.slice (some ⟨b3, 0, none⟩) t c3)).setCell ⟨g, 4, none⟩ (.slice (some ⟨b4, 0, none⟩) t c4)).setCell ⟨g, 2, none⟩ (.slice (some ⟨b2, 0, none⟩) (120 * t) c2))) := Lib.hid
      (((HB3.out.setCell (p := ⟨g, 3, none⟩) hg _).setCell (p := ⟨g, 4, none⟩) hg _).setCell (p := ⟨g, 2, none⟩) hg _)
    have HW8 : Hid (∃ R', WAt (((W3.setCell ⟨g, 3, none⟩ (.slice (some ⟨b3, 0, none⟩) t c3)).setCell ⟨g, 4, none⟩ (.slice (some ⟨b4, 0, none⟩) t c4)).setCell ⟨g, 2, none⟩ (.slice (some ⟨b2, 0, none⟩) (120 * t) c2)) g base R' (wX { sb with calls := cs }) (rd : Int) sb.state sb.value (sb.steps : Int) sb.over ∧ R' 0 = R 0) := Lib.hid ⟨_, HW7.out.congr (fun _ _ => rfl) HXs.out, rfl⟩
    have hdo : doS ⟨45, (dst : Int), (a : Int), (b : Int), nn⟩ c.next cs sb = retS cs sb := rfl
    unfold retS at hdo
    have HDo := Lib.hid hdo
    clear hR2 hR3 hR4 hws' hfw hcn hx3 hx4 hx2 q2 q3 q4 HW5 HW6 HW7 HXs hdo htn hrn hwn
    go_upto_region 52 with fail
    generalize ((W3.setCell ⟨g, 3, none⟩ (.slice (some ⟨b3, 0, none⟩) t c3)).setCell ⟨g, 4, none⟩ (.slice (some ⟨b4, 0, none⟩) t c4)).setCell ⟨g, 2, none⟩ (.slice (some ⟨b2, 0, none⟩) (120 * t) c2) = W8 at *
    obtain ⟨R', hW8, hR0'⟩ := HW8.out
    have HW9 := Lib.hid hW8
    by_cases ht0' : t = 0
    · have hcs0 : cs.length = 0 := by rw [HT.out, ht0']
      have hdo := HDo.out
      rw [if_pos hcs0] at hdo
      have HDo2 := Lib.hid hdo
      have hR1 := HR.out.1
      have hR0'' : R' 0 = .slice (some ⟨b0, 0, none⟩) 16 c0 := hR0'.trans hR1
      have k0 : W8.cell? ⟨g, 0, none⟩ = some (.slice (some ⟨b0, 0, none⟩) 16 c0) := (hW8.blk.cell 0).trans (by rw [← hR0'']; rfl)
      obtain ⟨y, hy⟩ : ∃ y, sb.regs[0]? = some y := ⟨sb.regs[0]'(by have h16 : sb.regs.length = 16 := HL16.out; omega), List.getElem?_eq_getElem _⟩
      have r0 := hW8.cell (i := 0) (by omega) hR0'' (show (wX { sb with calls := cs } 0)[0]? = some y from hy)
      have k7 : W8.cell? ⟨g, 7, none⟩ = some (.int .i64 sb.value) := hW8.blk.cell 7
      have f7 := hW8.blk.frozen 7
      have HVl := Lib.hid (hW8.vl' y)
      have HBv := Lib.hid (HB7.out.setCell (p := ⟨g, 7, none⟩) hg (.int .i64 y))
      have Hy : Hid (sb.reg 0 = y) := Lib.hid (by unfold Mch.reg; rw [List.getD_eq_getElem?_getD]; show (sb.regs[0]?).getD 0 = y; rw [hy]; rfl)
      have hte : ((t : Int) == 0) = true := by rw [ht0']; rfl
      clear hcs0 hdo hR0' hR1 hR0'' hW8 hy ht0' HW8 HW9
      go_upto_region 54 with fail
      generalize W8.setCell ⟨g, 7, none⟩ (.int .i64 y) = W9 at *
      go_wp2_with fail
      refine (Wends_any W9 g base R' (wX { sb with calls := cs }) (rd : Int) sb.state y (sb.steps : Int) 0 sb.over HVl.out hg).mono ?_
      rintro e W' ⟨rfl, h1, h2⟩
      have H1 := Lib.hid h1
      have H2 := Lib.hid (HBv.out.trans h2)
      clear h1 h2
      go_wp2_with fail
      go_end0
      exact HFin.out _ _ HDo2.out ⟨R', rd, by rw [Hy.out]; exact H1.out, HInp.out⟩ H2.out
    · have hcs0 : ¬ (cs.length = 0) := by rw [HT.out]; exact ht0'
      have hdo := HDo.out
      rw [if_neg hcs0] at hdo
      have HDo2 := Lib.hid hdo
      have hte : ((t : Int) == 0) = false := by simp; omega
      clear hcs0 hdo hR0' hW8 ht0' HW8
      go_wp2_with fail
      go_end0
      exact HFin.out _ _ HDo2.out ⟨R', rd, HW9.out, HInp.out⟩ HB7.out
  · have hR5 := HR.out.2.2.2.2.2
    obtain ⟨ol, hol⟩ : ∃ n, sb.out.length = n := ⟨_, rfl⟩
    have hl5 : (wX sb 5).length = ol := hol
    have hl5s : (wX s 5).length = ol := by rw [← hol, HBeg.out.2.2.2.2]; rfl
    rw [hl5s] at hR5
    have k8 : W3.cell? ⟨g, 8, none⟩ = some (.slice A5 ol c5) := (HW4.out.blk.cell 8).trans (by rw [← hR5]; rfl)
    have hol2 := HSm.out.1
    rw [hol] at hol2
    have hdo : doS ⟨47, (dst : Int), (a : Int), (b : Int), nn⟩ c.next cs sb = printS (a : Int) sb := rfl
    unfold printS at hdo
    rw [hol, HRg.out.1] at hdo
    by_cases h200 : ol = 200
    · rw [if_pos h200] at hdo
      have HDo := Lib.hid hdo
      have hgt : (199 : Int) < (ol : Int) := by omega
      clear hdo hR5 hl5 hl5s hol h200
      go_wp2_with fail
      refine (HEnd.out 5).mono ?_
      rintro e W' ⟨rfl, h1, h2⟩
      have H1 := Lib.hid h1
      have H2 := Lib.hid h2
      clear h1 h2
      go_wp2_with fail
      go_end0
      exact HFin.out _ _ HDo.out H1.out H2.out
    · rw [if_neg h200] at hdo
      have HDo := Lib.hid hdo
      have hgt : ¬ ((199 : Int) < (ol : Int)) := by omega
      have hrow : W3.ownsRow base 3 1 (.slice A5 ol c5) ol (intV sb.out) := by
        have := HW4.out.rows 5 (by omega)
        rw [hR5, hl5] at this
        exact this
      have HRow := Lib.hid hrow
      have hzb : base ≤ W3.heap.size := by have := HW4.out.blk.lt; omega
      have HOl := Lib.hid (And.intro hR5 (And.intro hl5 hol))
      clear hdo hR5 hl5 hl5s hol hrow
      go_wp2_with (at_builtin; refine app_one rfl _ _ 26 3 rfl (.int .i64 0) 1 8 Tryd.underlying26 infoInt rfl (by decide) (by decide) base (.slice A5 ol c5) ol (intV sb.out) (by rfl) HRow.out _ [.int .i64 xa] (by rfl) rfl (fun x hx => by simp at hx; subst hx; rfl) rfl (by omega) hzb ?_; intro v4 w4 HA4; obtain ⟨Bo, co, hv4⟩ := row_form HA4.out.1; subst hv4; have hk4 := HA4.out.blk HRow.out HW4.out.blk (by decide); have e8 := hk4.cell 8; have ef8 := hk4.frozen 8; clear hk4)
      have hap : Appended W3 base 3 1 (R 5) ((wX sb 5).length + [xa].length) (intV (wX sb 5) ++ intV [xa]) (W3.heap.size + 1) (.slice Bo (ol + 1) co) w4 := by
        rw [HOl.out.1, HOl.out.2.1]
        exact HA4.out
      have HW6 := Lib.hid (HW4.out.app 5 (by omega) (by omega) hap)
      clear hap e8 ef8
      go_end0
      exact HFin.out _ _ HDo.out ⟨_, rd, HW6.out.congr (fun _ _ => rfl) (fun i hi => by
        match i, hi with
        | 0, _ => rfl
        | 1, _ => rfl
        | 2, _ => rfl
        | 3, _ => rfl
        | 4, _ => rfl
        | 5, _ => rfl
        | i + 6, h => omega), HInp.out⟩ ((HB3.out.trans HA4.out.below).setCell (p := ⟨g, 8, none⟩) hg _)
end Go.Proofs.YtkiaffaieniebaaDoor
