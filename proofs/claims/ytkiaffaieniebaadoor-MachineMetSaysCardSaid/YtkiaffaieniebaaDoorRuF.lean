/-
  Contract of the machine's step.
  Conditions: the machine lies in memory, in a good state, not over.
-/
import Derived.Test.YtkiaffaieniebaaDoorRuE
import Derived.StillTailTactics
namespace Go.Proofs.YtkiaffaieniebaaDoor
open Go.RowKit

def StepPost (w : World) (base g : Nat) (codes : List (List Mac)) (s : Mch) (r pc : Nat) (e : Ending) (w' : World) : Prop := e = .returned (.tuple #[.int .i64 (r : Int), .int .i64 (pc : Int)]) ∧ MachIs w' base g codes s ∧ Below base w w'
set_option maxRecDepth 100000 in
set_option maxHeartbeats 4000000 in
theorem step_any (w : World) (base g : Nat) (codes : List (List Mac)) (s : Mch) (h : MachIs w base g codes s) (hc : GoodC codes) (hgs : GoodS codes s) (ho : s.over = false) (hst : s.steps ≤ 1000000) :
    Calls Tryd.prog 49 #[.pointer (some ⟨g, 0, none⟩)] w (StepPost w base g codes (stepS codes s) s.pos.1 s.pos.2) := by
  obtain ⟨hg, cv, mv, lv, iv, ov, ps, h⟩ := h
  obtain ⟨c, cs, hs⟩ : ∃ c cs, s.calls = c :: cs := by
    cases e : s.calls with
    | nil => exact absurd e (hgs.some ho)
    | cons c cs => exact ⟨c, cs, rfl⟩
  have hpos : s.pos = (c.r, c.pc) := by unfold Mch.pos; rw [hs]
  have hstep : stepS codes s = doS (macAt codes c.r c.pc) c.next cs (s.begun c cs) := by unfold stepS; rw [hs]
  obtain ⟨ms, hms, hpc, hmac, hgm, hpc1⟩ := macAt_good hc (hgs.frs c (by rw [hs]; simp))
  have hws : c.ws.length = 120 := by obtain ⟨_, _, _, h⟩ := hgs.frs c (by rw [hs]; simp); exact h
  have hr := hgs.regs
  rw [hpos, hstep]
  obtain ⟨m, hm⟩ : ∃ m, macAt codes c.r c.pc = m := ⟨_, rfl⟩
  rw [hm] at hmac hgm hpc1 ⊢
  rw [hs] at h
  obtain ⟨p, ps, rfl⟩ : ∃ p ps', ps = p :: ps' := by
    cases ps with
    | nil => exact absurd h.2.frs (by simp [FrsAt])
    | cons p ps => exact ⟨p, ps, rfl⟩
  obtain ⟨bl, cl, hlv, hcl0, hcl⟩ := row_some h.2.hcalls (by simp)
  subst hlv
  obtain ⟨L, hL⟩ : ∃ L, ps.length = L := ⟨_, rfl⟩
  have hL30 : L < 30 := by
    have h1 := h.2.frs.len
    have h2 := hgs.calls
    rw [hs] at h2
    simp only [List.length_cons] at h1 h2
    omega
  have htop := top_cell (show MRest w base codes s.mem (c :: cs) s.input s.out cv mv (.slice (some ⟨bl, 0, none⟩) (ps.length + 1) cl) iv ov (p :: ps) from h.2)
  have c18 : w.cell? ⟨g, 18, none⟩ = some (.slice (some ⟨bl, 0, none⟩) (ps.length + 1) cl) := (h.1.cell 18).trans (mach_tail hr 1)
  have hcl0' : ps.length + 1 ≤ cl := hcl0
  rw [hL] at htop c18 hcl0'
  unfold ptrV at htop
  have p0 := (h.2.top.2.cell 0).trans (fr_r c)
  have p1 := (h.2.top.2.cell 1).trans (fr_pc c)
  have hw1 : IntKind.i64.wrap (((L + 1 : Nat) : Int) - 1) = (L : Int) := by rw [IntKind.wrap_i64]; omega
  have hi0 : (0 : Int) ≤ (L : Int) := Int.natCast_nonneg L
  have hi1 : (L : Int) < ((L + 1 : Nat) : Int) := by omega
  have H := Lib.hid h
  have Hs := Lib.hid hs
  have Hr := Lib.hid hr
  have Hgm := Lib.hid hgm
  have Hpc1 := Lib.hid hpc1
  have Hws := Lib.hid hws
  have Hgs := Lib.hid hgs
  have HL := Lib.hid hL
  have Hms := Lib.hid hms
  have Hmac := Lib.hid hmac
  clear hpos hstep hms hmac hgm hpc1 hws hr hm h hL hcl0 hs hc hgs ho
  go_enter Tryd.func49, Tryd.ntmps49
  go_wp2_with fail
  go_quiet (fail)
  go_wp2_with fail
  go_quiet (fail)
  go_upto_region 3 with fail
  generalize hW : (World.drewN w _).drewN _ = W1
  have hB : Below w.heap.size w W1 := by rw [← hW]; exact below_drewN (below_drewN (Below.refl _ _) _) _
  have H1 := Lib.hid (pair_below hg H.out hB)
  have HB1 := Lib.hid hB
  have HZ : Hid (base ≤ w.heap.size) := Lib.hid (by have := H.out.1.lt; omega)
  clear hW hB htop c18 p0 p1 hw1 hi0 hi1
  have c0 := (H1.out.1.cell 0).trans mach_codes
  obtain ⟨Ac, cc, hcv, hcc, hc63, hcodes⟩ := H1.out.2.hcodes
  have hrl : c.r < codes.length := (List.getElem?_eq_some_iff.1 Hms.out).1
  obtain ⟨bc, oc, hAc, hbc, hrow⟩ := hcodes (by omega)
  subst hAc
  obtain ⟨rv, crow, Am, cm, hrv, hcm, hm63, hmacs⟩ := hrow c.r ms Hms.out
  obtain ⟨bm, om, hAm, hbm, hcell⟩ := hmacs (by omega)
  subst hAm
  subst hrv
  subst hcv
  obtain ⟨m0, m1, m2, m3, m4⟩ := hcell c.pc m Hmac.out
  have HK : Hid (Blk (W1.alloc (.cells #[.int .i64 m.op, .int .i64 m.dst, .int .i64 m.a, .int .i64 m.b, .int .i64 m.n] 24)) W1.heap.size 24 #[.int .i64 m.op, .int .i64 m.dst, .int .i64 m.a, .int .i64 m.b, .int .i64 m.n]) := Lib.hid (Blk.new _ _ _)
  clear hcodes hrow hmacs hcell
  go_upto_region 4 with fail
  have hA : Below W1.heap.size W1 (W1.alloc (.cells #[.int .i64 m.op, .int .i64 m.dst, .int .i64 m.a, .int .i64 m.b, .int .i64 m.n] 24)) := (Below.refl _ _).alloc (Nat.le_refl _) _
  have H2 := Lib.hid (pair_below hg H1.out hA)
  have HB2 := Lib.hid ((HB1.out.mono HZ.out).trans (hA.mono (by have := H1.out.1.lt; omega)))
  clear m0 m1 m2 m3 m4 crow c0 hA
  generalize W1.alloc (.cells #[.int .i64 m.op, .int .i64 m.dst, .int .i64 m.a, .int .i64 m.b, .int .i64 m.n] 24) = W2 at *
  generalize W1.heap.size = gk at *
  have p1 := (H2.out.2.top.2.cell 1).trans (fr_pc c)
  have pf1 := H2.out.2.top.2.frozen 1
  have H3 := Lib.hid (MRest.setp H2.out.2 H2.out.1 _ (fr_set_pc c (c.pc + 1)))
  have HK3 : Hid (Blk (W2.setCell ⟨p, 1, none⟩ (.int .i64 ((c.pc + 1 : Nat) : Int))) gk 24 #[.int .i64 m.op, .int .i64 m.dst, .int .i64 m.a, .int .i64 m.b, .int .i64 m.n]) := Lib.hid (HK.out.far (HK.out.types H2.out.2.top.2 (by decide)) _)
  have HB3 : Hid (Below base w (W2.setCell ⟨p, 1, none⟩ (.int .i64 ((c.pc + 1 : Nat) : Int)))) := Lib.hid (HB2.out.setCell H2.out.2.top.1 _)
  go_upto_region 5 with fail
  rw [show (c.pc : Int) + 1 = ((c.pc + 1 : Nat) : Int) by omega]
  generalize W2.setCell ⟨p, 1, none⟩ (.int .i64 ((c.pc + 1 : Nat) : Int)) = W3 at *
  have c23 : W3.cell? ⟨g, 23, none⟩ = some (.int .i64 (s.steps : Int)) := (H3.out.1.cell 23).trans (mach_tail Hr.out 6)
  have f23 := H3.out.1.frozen 23
  have H4 := Lib.hid (mset H3.out hg (mach_set_steps (s.steps + 1) Hr.out))
  have HK4 : Hid (Blk (W3.setCell ⟨g, 23, none⟩ (.int .i64 ((s.steps + 1 : Nat) : Int))) gk 24 #[.int .i64 m.op, .int .i64 m.dst, .int .i64 m.a, .int .i64 m.b, .int .i64 m.n]) := Lib.hid (HK3.out.far (HK3.out.types H3.out.1 (by decide)) _)
  have HB4 : Hid (Below base w (W3.setCell ⟨g, 23, none⟩ (.int .i64 ((s.steps + 1 : Nat) : Int)))) := Lib.hid (HB3.out.setCell hg _)
  go_upto_region 7 with fail
  rw [show (s.steps : Int) + 1 = ((s.steps + 1 : Nat) : Int) by omega]
  generalize W3.setCell ⟨g, 23, none⟩ (.int .i64 ((s.steps + 1 : Nat) : Int)) = W4 at *
  have HM : Hid (MachTop W4 base g codes (s.begun c cs) c.next cs p) := Lib.hid ⟨hg, rfl, _, _, _, _, _, _, H4.out.1, H4.out.2⟩
  obtain ⟨o1, o2, d1, d2, a1, a2, b1, b2, _, ht, _⟩ := Hgm.out
  obtain ⟨x, hx⟩ : ∃ x, s.regs.getD m.a.toNat 0 = x := ⟨_, rfl⟩
  obtain ⟨y, hy⟩ : ∃ y, s.regs.getD m.b.toNat 0 = y := ⟨_, rfl⟩
  have ca : W4.cell? ⟨g, 1 + m.a.toNat, none⟩ = some (.int .i64 x) := by rw [← hx]; exact (H4.out.1.cell (1 + m.a.toNat)).trans (mach_reg (s := { s with steps := s.steps + 1 }) (a := m.a.toNat) Hr.out (by omega))
  have cb : W4.cell? ⟨g, 1 + m.b.toNat, none⟩ = some (.int .i64 y) := by rw [← hy]; exact (H4.out.1.cell (1 + m.b.toNat)).trans (mach_reg (s := { s with steps := s.steps + 1 }) (a := m.b.toNat) Hr.out (by omega))
  have HX : Hid ((s.begun c cs).reg m.a = x) := Lib.hid hx
  have HY : Hid ((s.begun c cs).reg m.b = y) := Lib.hid hy
  have Ht := Lib.hid ht
  have k0 := HK4.out.cell 0
  have k1 := HK4.out.cell 1
  have k2 := HK4.out.cell 2
  have k3 := HK4.out.cell 3
  have k4 := HK4.out.cell 4
  clear hx hy p1 pf1 c23 f23 hbm hm63 hcm hc63 hcc ht
  by_cases hA : 5 ≤ m.op ∧ m.op ≤ 18
  · have HA := Lib.hid hA
    obtain ⟨hA1, hA2⟩ := hA
    go_wp2_with fail
    go_still_tail 19, (by kernel_rfl)
    go_wp2_with fail
    refine (reckon_any m.op m.dst x y _ base g codes (s.begun c cs) HM.out.is.drew Hr.out hA1 hA2 d1 d2).mono ?_
    rintro e w' ⟨rfl, hm, hb⟩
    have HM5 := Lib.hid hm
    have HB5 := Lib.hid hb
    clear hm hb
    go_wp2_with fail
    go_ret2
    refine ⟨rfl, ?_, (below_drew1 HB4.out).trans HB5.out⟩
    rw [show doS m c.next cs (s.begun c cs) = reckS (m.op - 3) m.dst x y (s.begun c cs) from by unfold doS; rw [if_pos HA.out, HX.out, HY.out]]
    exact HM5.out
  by_cases hB : 19 ≤ m.op ∧ m.op ≤ 32
  · have HA := Lib.hid hA
    have HB := Lib.hid hB
    obtain ⟨hB1, hB2⟩ := hB
    clear hA
    go_wp2_with fail
    go_still_tail 16, (by kernel_rfl)
    go_wp2_with fail
    refine (reckon_any (m.op - 19 + 5) m.dst x m.n _ base g codes (s.begun c cs) HM.out.is.drew Hr.out (by omega) (by omega) d1 d2).mono ?_
    rintro e w' ⟨rfl, hm, hb⟩
    have HM5 := Lib.hid hm
    have HB5 := Lib.hid hb
    clear hm hb
    go_wp2_with fail
    go_ret2
    refine ⟨rfl, ?_, (below_drew1 HB4.out).trans HB5.out⟩
    rw [show doS m c.next cs (s.begun c cs) = reckS (m.op - 19 + 5 - 3) m.dst x m.n (s.begun c cs) from by unfold doS; rw [if_neg HA.out, if_pos HB.out, HX.out, show m.op - 17 = m.op - 19 + 5 - 3 by omega]]
    exact HM5.out
  by_cases hC : 37 ≤ m.op ∧ m.op ≤ 43
  · have HA := Lib.hid hA
    have HB := Lib.hid hB
    have HC := Lib.hid hC
    obtain ⟨hn1, hn2⟩ := Ht.out hC
    obtain ⟨hC1, hC2⟩ := hC
    clear hA hB
    obtain ⟨gb, hgb⟩ : ∃ gb, goesS m.op x y = gb := ⟨_, rfl⟩
    have HGb := Lib.hid hgb
    have hcall := goes_any m.op x y W4.drew hC1 hC2
    rw [hgb] at hcall
    have HCall := Lib.hid hcall
    have q1 := (H4.out.2.top.2.cell 1).trans (fr_pc c.next)
    have qf1 := H4.out.2.top.2.frozen 1
    clear hgb hcall
    cases gb
    · go_wp2_with fail
      go_still_tail 16, (by kernel_rfl)
      go_wp2_with fail
      refine HCall.out.mono ?_
      rintro e w' ⟨rfl, rfl⟩
      go_wp2_with fail
      go_ret2
      refine ⟨rfl, ?_, below_drew1 HB4.out⟩
      rw [show doS m c.next cs (s.begun c cs) = s.begun c cs from by unfold doS; rw [if_neg HA.out, if_neg HB.out, if_pos HC.out, HX.out, HY.out, HGb.out]; rfl]
      exact HM.out.is.drew
    · go_wp2_with fail
      go_still_tail 16, (by kernel_rfl)
      go_wp2_with fail
      refine HCall.out.mono ?_
      rintro e w' ⟨rfl, rfl⟩
      go_wp2_with fail
      go_ret2
      refine ⟨rfl, ?_, ?_⟩
      · rw [show doS m c.next cs (s.begun c cs) = { s.begun c cs with calls := { c.next with pc := m.n.toNat } :: cs } from by unfold doS; rw [if_neg HA.out, if_neg HB.out, if_pos HC.out, HX.out, HY.out, HGb.out]; rfl]
        have h5 := MRest.setp H4.out.2 H4.out.1 _ (fr_set_pc c.next m.n.toNat)
        rw [Int.toNat_of_nonneg hn1] at h5
        refine MachIs.drew ?_
        exact mk_is hg h5 rfl rfl rfl rfl
      · exact below_drew1 (HB4.out.setCell H4.out.2.top.1 _)
  by_cases hD : 44 ≤ m.op
  · have HA := Lib.hid hA
    have HB := Lib.hid hB
    have HC := Lib.hid hC
    have HD := Lib.hid hD
    have h43 : 43 < m.op := by omega
    clear hA hB hC
    go_wp2_with fail
    refine (speaks_any m ms.length codes.length _ base g p codes (s.begun c cs) c.next cs HM.out Hr.out Hgm.out HD.out (by have := Hgs.out.calls; rw [Hs.out] at this; simpa [Mch.begun] using this) Hgs.out.out).mono ?_
    rintro e w' ⟨rfl, hm, hb⟩
    have HM5 := Lib.hid hm
    have HB5 := Lib.hid hb
    clear hm hb
    go_wp2_with fail
    go_ret2
    refine ⟨rfl, ?_, ( HB4.out).trans HB5.out⟩
    rw [show doS m c.next cs (s.begun c cs) = speaksS m cs (s.begun c cs) from by unfold doS; rw [if_neg HA.out, if_neg HB.out, if_neg HC.out, if_pos HD.out]]
    exact HM5.out
  · have HA := Lib.hid hA
    have HB := Lib.hid hB
    have HC := Lib.hid hC
    have HD := Lib.hid hD
    have hm37 : m.op < 37 := by omega
    have hx : m.op < 5 ∨ 32 < m.op := by omega
    clear hA hB hC hD
    rcases hx with hx | hx
    all_goals
      go_wp2_with fail
      refine (moves_any m ms.length codes.length _ base g p codes (s.begun c cs) c.next cs HM.out Hr.out Hws.out Hgm.out (by omega) hm37).mono ?_
      rintro e w' ⟨rfl, hm, hb⟩
      have HM5 := Lib.hid hm
      have HB5 := Lib.hid hb
      clear hm hb
      go_wp2_with fail
      go_ret2
      refine ⟨rfl, ?_, ( HB4.out).trans HB5.out⟩
      rw [show doS m c.next cs (s.begun c cs) = movesS m c.next cs (s.begun c cs) from by unfold doS; rw [if_neg HA.out, if_neg HB.out, if_neg HC.out, if_neg (show ¬ 44 ≤ m.op by omega)]]
      exact HM5.out
end Go.Proofs.YtkiaffaieniebaaDoor
