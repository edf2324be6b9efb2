/-
  code.checker: end.
  Conditions: as the theorems say.
-/
import Derived.Test.YtgnkkgbjcodihaaDoorUnC
namespace Go.Proofs.YtgnkkgbjcodihaaDoor
open Go.RowKit

/-- The table of how many targets an end has. -/
structure Ways (w : World) : Prop where
  lt : 0 < w.heap.size
  w1 : w.cell? ⟨0, 1, none⟩ = some (.int .i64 0)
  w2 : w.cell? ⟨0, 2, none⟩ = some (.int .i64 1)
  w3 : w.cell? ⟨0, 3, none⟩ = some (.int .i64 2)
theorem Ways.below {W w : World} {B : Nat} (h : Ways W) (hb : Below B W w) (hB : 0 < B) (hz : B ≤ w.heap.size) : Ways w :=
  ⟨by omega, (bcell hb hB).trans h.w1, (bcell hb hB).trans h.w2, (bcell hb hB).trans h.w3⟩
theorem Ways.own {W w : World} (h : Ways W) (hb : Below W.heap.size W w) : Ways w := h.below hb h.lt hb.size
section
variable {nb regs : Int} {b : BlkU}
theorem end_e4 (h : inB b.kind 1 3 = false) : endE nb regs b = 4 := by unfold endE; rw [if_pos h]
theorem end_e9 (h : inB b.kind 1 3 = true) (h2 : b.to.length ≠ waysU b.kind) : endE nb regs b = 9 := by unfold endE; rw [if_neg (by rw [h]; simp), if_pos h2]
theorem end_e3 (h : inB b.kind 1 3 = true) (h2 : b.to.length = waysU b.kind) (h3 : (b.to.any fun n => !inB n 1 (nb - 1)) = true) : endE nb regs b = 3 := by
  unfold endE; rw [if_neg (by rw [h]; simp), if_neg (by simpa using h2), if_pos h3]
theorem end_e5 (h : inB b.kind 1 3 = true) (h2 : b.to.length = waysU b.kind) (h3 : (b.to.any fun n => !inB n 1 (nb - 1)) = false) (h4 : (b.kind = 3 ∧ b.to.getD 0 0 = b.to.getD 1 0) ∨ (b.kind = 2 ∧ b.on ≠ Opd.zero)) : endE nb regs b = 5 := by
  unfold endE; rw [if_neg (by rw [h]; simp), if_neg (by simpa using h2), if_neg (by rw [h3]; simp), if_pos h4]
theorem end_ev (h : inB b.kind 1 3 = true) (h2 : b.to.length = waysU b.kind) (h3 : (b.to.any fun n => !inB n 1 (nb - 1)) = false) (h4 : ¬ ((b.kind = 3 ∧ b.to.getD 0 0 = b.to.getD 1 0) ∨ (b.kind = 2 ∧ b.on ≠ Opd.zero))) : endE nb regs b = valE regs b.on := by
  unfold endE; rw [if_neg (by rw [h]; simp), if_neg (by simpa using h2), if_neg (by rw [h3]; simp), if_neg h4]
end
set_option maxRecDepth 100000 in
set_option maxHeartbeats 2000000 in
theorem end_any (gA fA bA aA : Option Addr) (gl gc fl fc bl bc al ac : Nat) (nm : ByteArray) (ps regs : Int) (tA : Option Addr) (tl tc : Nat) (b : BlkU) (w : World) (hr : 0 ≤ regs ∧ regs ≤ 100) (ht : IntsAt w w.heap.size (.slice tA tl tc) b.to) (hW : Ways w) (hbl : bl ≤ 9223372036854775807) :
    Calls Tryd.prog 77 #[.agg #[.slice gA gl gc, .slice fA fl fc, .string nm, .int .i64 ps, .int .i64 regs, .slice bA bl bc, .slice aA al ac], .agg #[.int .i64 b.kind, .bool b.on.reg, .int .i64 b.on.n, .slice tA tl tc]] w fun e w' => e = .returned (.int .i64 (endE (bl : Int) regs b)) ∧ Below w.heap.size w w' := by
  obtain ⟨phis, list, kind, ⟨r, n⟩, to⟩ := b
  have HT := Lib.hid ht
  have HWays := Lib.hid hW
  have hlen : to.length = tl := by
    obtain ⟨A', c', e, _⟩ := ht
    cases e
    rfl
  have HL := Lib.hid hlen
  have h63 : tl ≤ 9223372036854775807 := by
    obtain ⟨A', c', e, h1, h2, _⟩ := ht
    cases e
    omega
  have HRr := Lib.hid hr
  have HWi := Lib.hid (Within_any kind 1 3)
  have HV : Hid (inB kind 1 3 = decide (1 ≤ kind ∧ kind ≤ 3)) := Lib.hid rfl
  have w1 := hW.w1
  have w2 := hW.w2
  have w3 := hW.w3
  have wlt := hW.lt
  simp only at ht hlen
  clear ht hW hlen hr
  go_enter Tryd.func77, Tryd.ntmps77
  go_wp2_with fail
  refine (HWi.out _).mono ?_
  rintro e w' ⟨rfl, rfl⟩
  cases hq : decide (1 ≤ kind ∧ kind ≤ 3)
  · have HE : Hid (endE (bl : Int) regs ⟨phis, list, kind, ⟨r, n⟩, to⟩ = 4) := Lib.hid (end_e4 (by simp only [HV.out, hq]))
    clear hq
    go_wp2_with fail
    go_ret
    exact ⟨ret_int HE.out.symm, ((Below.refl _ _).alloc (Nat.le_refl _) _).alloc (by simp) _⟩
  · have hkin : inB kind 1 3 = true := by rw [HV.out]; exact hq
    have HKin := Lib.hid hkin
    rw [decide_eq_true_eq] at hq
    have HW0 : Hid (Below w.heap.size w ((w.alloc (.cells #[.slice gA gl gc, .slice fA fl fc, .string nm, .int .i64 ps, .int .i64 regs, .slice bA bl bc, .slice aA al ac] 104)).alloc (.cells #[.int .i64 kind, .bool r, .int .i64 n, .slice tA tl tc] 42))) := Lib.hid (((Below.refl _ _).alloc (Nat.le_refl _) _).alloc (by simp) _)
    have HC0 : Hid (Blk ((w.alloc (.cells #[.slice gA gl gc, .slice fA fl fc, .string nm, .int .i64 ps, .int .i64 regs, .slice bA bl bc, .slice aA al ac] 104)).alloc (.cells #[.int .i64 kind, .bool r, .int .i64 n, .slice tA tl tc] 42)) w.heap.size 104 #[.slice gA gl gc, .slice fA fl fc, .string nm, .int .i64 ps, .int .i64 regs, .slice bA bl bc, .slice aA al ac]) := Lib.hid ((Blk.new w _ _).alloc _)
    have HK0 : Hid (Blk ((w.alloc (.cells #[.slice gA gl gc, .slice fA fl fc, .string nm, .int .i64 ps, .int .i64 regs, .slice bA bl bc, .slice aA al ac] 104)).alloc (.cells #[.int .i64 kind, .bool r, .int .i64 n, .slice tA tl tc] 42)) (w.heap.size + 1) 42 #[.int .i64 kind, .bool r, .int .i64 n, .slice tA tl tc]) := Lib.hid (by simpa using Blk.new (w.alloc (.cells #[.slice gA gl gc, .slice fA fl fc, .string nm, .int .i64 ps, .int .i64 regs, .slice bA bl bc, .slice aA al ac] 104)) 42 #[.int .i64 kind, .bool r, .int .i64 n, .slice tA tl tc])
    go_wp2_with fail
    generalize (w.alloc (.cells #[.slice gA gl gc, .slice fA fl fc, .string nm, .int .i64 ps, .int .i64 regs, .slice bA bl bc, .slice aA al ac] 104)).alloc (.cells #[.int .i64 kind, .bool r, .int .i64 n, .slice tA tl tc] 42) = W at *
    have w1 := (bcell HW0.out wlt).trans w1
    have w2 := (bcell HW0.out wlt).trans w2
    have w3 := (bcell HW0.out wlt).trans w3
    have k0 := HK0.out.cell 0
    have k1 := HK0.out.cell 1
    have k2 := HK0.out.cell 2
    have k3 := HK0.out.cell 3
    have c5 := HC0.out.cell 5
    obtain rfl | rfl | rfl : kind = 1 ∨ kind = 2 ∨ kind = 3 := by omega
    · have HWa : Hid (waysU 1 = 0) := Lib.hid (by unfold waysU; simp)
      by_cases hl : tl = 0
      · have HL2 : Hid (to.length = waysU 1) := Lib.hid (by rw [HWa.out]; exact HL.out.trans hl)
        subst hl
        go_quiet (fail)
        go_wp2_with fail
        refine (ContainsI_any 92 #[.pointer (some ⟨w.heap.size, 0, none⟩)] _ to (fun n => !inB n 1 ((bl : Int) - 1)) _ ((HT.out.below (below_drewN HW0.out _) (Nat.le_refl _)).more HW0.out.size) (fun a W => MuLone.run_callFunc_enter Tryd.func92 (by kernel_rfl) rfl a W) (fun x V hV => ?_)).mono ?_
        · have := endClo_any x w.heap.size bA bl bc V ((bcell hV HC0.out.lt).trans (HC0.out.cell 5)) hbl
          simpa using this
        rintro e w4 ⟨rfl, hb4⟩
        have HW4 : Hid (Below w.heap.size w w4) := Lib.hid ((below_drewN HW0.out _).trans (hb4.mono HW0.out.size))
        have HC4 := Lib.hid ((show Blk (W.drewN _) _ _ _ from HC0.out).below hb4 HC0.out.lt)
        have HK4 := Lib.hid ((show Blk (W.drewN _) _ _ _ from HK0.out).below hb4 HK0.out.lt)
        have k0 := HK4.out.cell 0
        have k1 := HK4.out.cell 1
        have k2 := HK4.out.cell 2
        have k3 := HK4.out.cell 3
        have c0 := HC4.out.cell 0
        have c1 := HC4.out.cell 1
        have c2 := HC4.out.cell 2
        have c3 := HC4.out.cell 3
        have c4 := HC4.out.cell 4
        have c5 := HC4.out.cell 5
        have c6 := HC4.out.cell 6
        have HT4 := Lib.hid ((HT.out.below HW4.out (Nat.le_refl _)).more HW4.out.size)
        clear hb4 w1 w2 w3
        cases hany : (to.any fun n => !inB n 1 ((bl : Int) - 1))
        · have Hany := Lib.hid hany
          clear hany
          have HE : Hid (endE (bl : Int) regs ⟨phis, list, 1, ⟨r, n⟩, to⟩ = valE regs ⟨r, n⟩) := Lib.hid (end_ev HKin.out HL2.out Hany.out (by simp))
          go_wp2_with fail
          go_quiet (fail)
          go_wp2_with fail
          refine (val_any gA fA bA aA gl gc fl fc bl bc al ac nm ps regs ⟨r, n⟩ _ HRr.out).mono ?_
          rintro e w5 ⟨rfl, hb5⟩
          go_wp2_with fail
          go_ret
          exact ⟨ret_int HE.out.symm, (below_drewN HW4.out _).trans (hb5.mono HW4.out.size)⟩
        · have HE : Hid (endE (bl : Int) regs ⟨phis, list, 1, ⟨r, n⟩, to⟩ = 3) := Lib.hid (end_e3 HKin.out HL2.out hany)
          clear hany
          go_wp2_with fail
          go_ret
          exact ⟨ret_int HE.out.symm, HW4.out⟩
      · have HE : Hid (endE (bl : Int) regs ⟨phis, list, 1, ⟨r, n⟩, to⟩ = 9) := Lib.hid (end_e9 HKin.out (by rw [HWa.out]; intro h; exact hl (HL.out.symm.trans h)))
        have hlb : ((tl : Int) != 0) = true := by simp; omega
        clear hl
        go_quiet (fail)
        go_wp2_with fail
        go_ret
        exact ⟨ret_int HE.out.symm, below_drewN HW0.out _⟩
    · have HWa : Hid (waysU 2 = 1) := Lib.hid (by unfold waysU; simp)
      by_cases hl : tl = 1
      · have HL2 : Hid (to.length = waysU 2) := Lib.hid (by rw [HWa.out]; exact HL.out.trans hl)
        subst hl
        go_quiet (fail)
        go_wp2_with fail
        refine (ContainsI_any 92 #[.pointer (some ⟨w.heap.size, 0, none⟩)] _ to (fun n => !inB n 1 ((bl : Int) - 1)) _ ((HT.out.below (below_drewN HW0.out _) (Nat.le_refl _)).more HW0.out.size) (fun a W => MuLone.run_callFunc_enter Tryd.func92 (by kernel_rfl) rfl a W) (fun x V hV => ?_)).mono ?_
        · have := endClo_any x w.heap.size bA bl bc V ((bcell hV HC0.out.lt).trans (HC0.out.cell 5)) hbl
          simpa using this
        rintro e w4 ⟨rfl, hb4⟩
        have HW4 : Hid (Below w.heap.size w w4) := Lib.hid ((below_drewN HW0.out _).trans (hb4.mono HW0.out.size))
        have HC4 := Lib.hid ((show Blk (W.drewN _) _ _ _ from HC0.out).below hb4 HC0.out.lt)
        have HK4 := Lib.hid ((show Blk (W.drewN _) _ _ _ from HK0.out).below hb4 HK0.out.lt)
        have k0 := HK4.out.cell 0
        have k1 := HK4.out.cell 1
        have k2 := HK4.out.cell 2
        have k3 := HK4.out.cell 3
        have c0 := HC4.out.cell 0
        have c1 := HC4.out.cell 1
        have c2 := HC4.out.cell 2
        have c3 := HC4.out.cell 3
        have c4 := HC4.out.cell 4
        have c5 := HC4.out.cell 5
        have c6 := HC4.out.cell 6
        have HT4 := Lib.hid ((HT.out.below HW4.out (Nat.le_refl _)).more HW4.out.size)
        clear hb4 w1 w2 w3
        cases hany : (to.any fun n => !inB n 1 ((bl : Int) - 1))
        · have Hany := Lib.hid hany
          clear hany
          by_cases hon : r = false ∧ n = 0
          · have HE : Hid (endE (bl : Int) regs ⟨phis, list, 2, ⟨r, n⟩, to⟩ = valE regs ⟨r, n⟩) := Lib.hid (end_ev HKin.out HL2.out Hany.out (by simp [hon.1, hon.2, Opd.zero]))
            obtain ⟨rfl, rfl⟩ := hon
            go_wp2_with fail
            go_quiet (fail)
            go_wp2_with fail
            refine (val_any gA fA bA aA gl gc fl fc bl bc al ac nm ps regs ⟨false, 0⟩ _ HRr.out).mono ?_
            rintro e w5 ⟨rfl, hb5⟩
            go_wp2_with fail
            go_ret
            exact ⟨ret_int HE.out.symm, (below_drewN HW4.out _).trans (hb5.mono HW4.out.size)⟩
          · have HE : Hid (endE (bl : Int) regs ⟨phis, list, 2, ⟨r, n⟩, to⟩ = 5) := Lib.hid (end_e5 HKin.out HL2.out Hany.out (.inr ⟨rfl, fun h => hon (by cases h; exact ⟨rfl, rfl⟩)⟩))
            rcases r with _ | _
            · have hn : (n == 0) = false := by simp at hon ⊢; exact hon
              have Hon := Lib.hid hon
              clear hon
              go_wp2_with fail
              go_quiet (fail)
              go_wp2_with fail
              go_ret
              exact ⟨ret_int HE.out.symm, below_drewN HW4.out _⟩
            · clear hon
              go_wp2_with fail
              go_quiet (fail)
              go_wp2_with fail
              go_ret
              exact ⟨ret_int HE.out.symm, below_drewN HW4.out _⟩
        · have HE : Hid (endE (bl : Int) regs ⟨phis, list, 2, ⟨r, n⟩, to⟩ = 3) := Lib.hid (end_e3 HKin.out HL2.out hany)
          clear hany
          go_wp2_with fail
          go_ret
          exact ⟨ret_int HE.out.symm, HW4.out⟩
      · have HE : Hid (endE (bl : Int) regs ⟨phis, list, 2, ⟨r, n⟩, to⟩ = 9) := Lib.hid (end_e9 HKin.out (by rw [HWa.out]; intro h; exact hl (HL.out.symm.trans h)))
        have hlb : ((tl : Int) != 1) = true := by simp; omega
        clear hl
        go_quiet (fail)
        go_wp2_with fail
        go_ret
        exact ⟨ret_int HE.out.symm, below_drewN HW0.out _⟩
    · have HWa : Hid (waysU 3 = 2) := Lib.hid (by unfold waysU; simp)
      by_cases hl : tl = 2
      · have HL2 : Hid (to.length = waysU 3) := Lib.hid (by rw [HWa.out]; exact HL.out.trans hl)
        subst hl
        go_quiet (fail)
        go_wp2_with fail
        refine (ContainsI_any 92 #[.pointer (some ⟨w.heap.size, 0, none⟩)] _ to (fun n => !inB n 1 ((bl : Int) - 1)) _ ((HT.out.below (below_drewN HW0.out _) (Nat.le_refl _)).more HW0.out.size) (fun a W => MuLone.run_callFunc_enter Tryd.func92 (by kernel_rfl) rfl a W) (fun x V hV => ?_)).mono ?_
        · have := endClo_any x w.heap.size bA bl bc V ((bcell hV HC0.out.lt).trans (HC0.out.cell 5)) hbl
          simpa using this
        rintro e w4 ⟨rfl, hb4⟩
        have HW4 : Hid (Below w.heap.size w w4) := Lib.hid ((below_drewN HW0.out _).trans (hb4.mono HW0.out.size))
        have HC4 := Lib.hid ((show Blk (W.drewN _) _ _ _ from HC0.out).below hb4 HC0.out.lt)
        have HK4 := Lib.hid ((show Blk (W.drewN _) _ _ _ from HK0.out).below hb4 HK0.out.lt)
        have k0 := HK4.out.cell 0
        have k1 := HK4.out.cell 1
        have k2 := HK4.out.cell 2
        have k3 := HK4.out.cell 3
        have c0 := HC4.out.cell 0
        have c1 := HC4.out.cell 1
        have c2 := HC4.out.cell 2
        have c3 := HC4.out.cell 3
        have c4 := HC4.out.cell 4
        have c5 := HC4.out.cell 5
        have c6 := HC4.out.cell 6
        have HT4 := Lib.hid ((HT.out.below HW4.out (Nat.le_refl _)).more HW4.out.size)
        clear hb4 w1 w2 w3
        cases hany : (to.any fun n => !inB n 1 ((bl : Int) - 1))
        · have Hany := Lib.hid hany
          clear hany
          obtain ⟨x0, hx0⟩ : ∃ x, to[0]? = some x := ⟨to[0]'(by have := HL.out; omega), List.getElem?_eq_getElem _⟩
          obtain ⟨x1, hx1⟩ : ∃ x, to[1]? = some x := ⟨to[1]'(by have := HL.out; omega), List.getElem?_eq_getElem _⟩
          obtain ⟨A', c', eA, _, _, h3⟩ := HT4.out
          obtain ⟨tb, toff, hA, htb, htc⟩ := h3 (by have := HL.out; omega)
          obtain rfl : A' = tA := ((Value.slice.inj eA).1).symm
          subst hA
          have d0 := htc 0 _ hx0
          have d1 := htc 1 _ hx1
          have Hx := Lib.hid (And.intro hx0 hx1)
          clear eA h3 htc hx0 hx1
          simp only [Nat.add_zero] at d0
          by_cases hxx : x0 = x1
          · have HE : Hid (endE (bl : Int) regs ⟨phis, list, 3, ⟨r, n⟩, to⟩ = 5) := Lib.hid (end_e5 HKin.out HL2.out Hany.out (.inl ⟨rfl, by simp only [List.getD_eq_getElem?_getD, Hx.out.1, Hx.out.2, hxx]⟩))
            subst hxx
            go_wp2_with fail
            go_quiet (fail)
            go_wp2_with fail
            go_ret
            exact ⟨ret_int HE.out.symm, below_drewN HW4.out _⟩
          · have HE : Hid (endE (bl : Int) regs ⟨phis, list, 3, ⟨r, n⟩, to⟩ = valE regs ⟨r, n⟩) := Lib.hid (end_ev HKin.out HL2.out Hany.out (by simp only [List.getD_eq_getElem?_getD, Hx.out.1, Hx.out.2, Option.getD_some]; simp [hxx]))
            have hxb : (x0 == x1) = false := by simpa using hxx
            have Hxx := Lib.hid hxx
            clear hxx
            go_wp2_with fail
            go_quiet (fail)
            go_wp2_with fail
            refine (val_any gA fA bA aA gl gc fl fc bl bc al ac nm ps regs ⟨r, n⟩ _ HRr.out).mono ?_
            rintro e w5 ⟨rfl, hb5⟩
            go_wp2_with fail
            go_ret
            exact ⟨ret_int HE.out.symm, (below_drewN HW4.out _).trans (hb5.mono HW4.out.size)⟩
        · have HE : Hid (endE (bl : Int) regs ⟨phis, list, 3, ⟨r, n⟩, to⟩ = 3) := Lib.hid (end_e3 HKin.out HL2.out hany)
          clear hany
          go_wp2_with fail
          go_ret
          exact ⟨ret_int HE.out.symm, HW4.out⟩
      · have HE : Hid (endE (bl : Int) regs ⟨phis, list, 3, ⟨r, n⟩, to⟩ = 9) := Lib.hid (end_e9 HKin.out (by rw [HWa.out]; intro h; exact hl (HL.out.symm.trans h)))
        have hlb : ((tl : Int) != 2) = true := by simp; omega
        clear hl
        go_quiet (fail)
        go_wp2_with fail
        go_ret
        exact ⟨ret_int HE.out.symm, below_drewN HW0.out _⟩
end Go.Proofs.YtgnkkgbjcodihaaDoor
