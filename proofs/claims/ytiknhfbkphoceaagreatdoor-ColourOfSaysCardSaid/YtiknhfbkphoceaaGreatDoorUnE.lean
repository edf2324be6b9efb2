/-
  Several texts in one (UnC UnD UnE): what each proves stands at its theorems.
  Conditions: as the theorems say.
-/
import Derived.Test.YtiknhfbkphoceaaGreatDoorUnL
namespace Go.Proofs.YtiknhfbkphoceaaGreatDoor
open Go.RowKit

set_option maxRecDepth 100000 in
set_option maxHeartbeats 1000000 in
theorem val_any (gA fA bA aA : Option Addr) (gl gc fl fc bl bc al ac : Nat) (nm : ByteArray) (ps regs : Int) (v : Opd) (w : World) (hr : 0 ≤ regs ∧ regs ≤ 100) :
    Calls Tryz.prog 101 #[.agg #[.slice gA gl gc, .slice fA fl fc, .string nm, .int .i64 ps, .int .i64 regs, .slice bA bl bc, .slice aA al ac], .agg #[.bool v.reg, .int .i64 v.n]] w fun e w' => e = .returned (.int .i64 (valE regs v)) ∧ Below w.heap.size w w' := by
  obtain ⟨r, n⟩ := v
  obtain ⟨h0, h1⟩ := hr
  cases r
  · have HE : Hid (valE regs ⟨false, n⟩ = 0) := Lib.hid (by unfold valE; rw [if_neg (by simp)])
    go_enter Tryz.func101, Tryz.ntmps101
    go_wp2_with fail
    go_ret
    exact ⟨ret_int HE.out.symm, ((Below.refl _ _).alloc (Nat.le_refl _) _).alloc (by simp) _⟩
  · have HW := Lib.hid (Within_any n 0 (regs - 1))
    have HV : Hid (inB n 0 (regs - 1) = decide (0 ≤ n ∧ n ≤ regs - 1)) := Lib.hid rfl
    go_enter Tryz.func101, Tryz.ntmps101
    go_wp2_with fail
    refine (HW.out _).mono ?_
    rintro e w' ⟨rfl, rfl⟩
    cases hq : decide (0 ≤ n ∧ n ≤ regs - 1)
    · have HE : Hid (valE regs ⟨true, n⟩ = 3) := Lib.hid (by unfold valE; rw [if_pos (by simp only [HV.out, hq]; simp)])
      clear hq
      go_wp2_with fail
      go_ret
      exact ⟨ret_int HE.out.symm, ((Below.refl _ _).alloc (Nat.le_refl _) _).alloc (by simp) _⟩
    · have HE : Hid (valE regs ⟨true, n⟩ = 0) := Lib.hid (by unfold valE; rw [if_neg (by simp only [HV.out, hq]; simp)])
      clear hq
      go_wp2_with fail
      go_ret
      exact ⟨ret_int HE.out.symm, ((Below.refl _ _).alloc (Nat.le_refl _) _).alloc (by simp) _⟩
set_option maxRecDepth 100000 in
set_option maxHeartbeats 1000000 in
theorem dst_any (gA fA bA aA : Option Addr) (gl gc fl fc bl bc al ac : Nat) (nm : ByteArray) (ps regs : Int) (n : Int) (w : World) (hr : 0 ≤ regs ∧ regs ≤ 100) :
    Calls Tryz.prog 102 #[.agg #[.slice gA gl gc, .slice fA fl fc, .string nm, .int .i64 ps, .int .i64 regs, .slice bA bl bc, .slice aA al ac], .int .i64 n] w fun e w' => e = .returned (.int .i64 (dstE regs n)) ∧ Below w.heap.size w w' := by
  obtain ⟨h0, h1⟩ := hr
  have HW := Lib.hid (Within_any n 0 (regs - 1))
  have HV : Hid (inB n 0 (regs - 1) = decide (0 ≤ n ∧ n ≤ regs - 1)) := Lib.hid rfl
  go_enter Tryz.func102, Tryz.ntmps102
  go_wp2_with fail
  refine (HW.out _).mono ?_
  rintro e w' ⟨rfl, rfl⟩
  cases hq : decide (0 ≤ n ∧ n ≤ regs - 1)
  · have HE : Hid (dstE regs n = 3) := Lib.hid (by unfold dstE; rw [if_pos (by simp only [HV.out, hq])])
    clear hq
    go_wp2_with fail
    go_ret
    exact ⟨ret_int HE.out.symm, (Below.refl _ _).alloc (Nat.le_refl _) _⟩
  · have HE : Hid (dstE regs n = 0) := Lib.hid (by unfold dstE; rw [if_neg (by simp only [HV.out, hq]; simp)])
    clear hq
    go_wp2_with fail
    go_ret
    exact ⟨ret_int HE.out.symm, (Below.refl _ _).alloc (Nat.le_refl _) _⟩
set_option maxRecDepth 100000 in
set_option maxHeartbeats 1000000 in
theorem endClo_any (n : Int) (gb : Nat) (bA : Option Addr) (bl bc : Nat) (w : World) (hc : w.cell? ⟨gb, 5, none⟩ = some (.slice bA bl bc)) (hbl : bl ≤ 9223372036854775807) :
    Calls Tryz.prog 100 #[.int .i64 n, .pointer (some ⟨gb, 0, none⟩)] w fun e w' => e = .returned (.bool (!inB n 1 ((bl : Int) - 1))) ∧ Below w.heap.size w w' := by
  have HW := Lib.hid (Within_any n 1 ((bl : Int) - 1))
  have HV : Hid (inB n 1 ((bl : Int) - 1) = decide (1 ≤ n ∧ n ≤ (bl : Int) - 1)) := Lib.hid rfl
  go_enter Tryz.func100, Tryz.ntmps100
  go_wp2_with fail
  refine (HW.out _).mono ?_
  rintro e w' ⟨rfl, rfl⟩
  go_wp2_with fail
  go_ret
  exact ⟨ret_bool (by rw [HV.out]; simp), Below.refl _ _⟩
set_option maxRecDepth 100000 in
set_option maxHeartbeats 1000000 in
theorem IndexI_any (F : FuncId) (cap : Array Value) (v : Value) (gs : List Int) (p : Int → Bool) (w : World) (hv : IntsAt w w.heap.size v gs) (hc : ∀ (a : Array Value) (W : World), (callFunc F a).run Tryz.prog W = .ok (.enter F a) W)
    (HF : ∀ (s : Int) (W : World), Below w.heap.size w W → Calls Tryz.prog F (#[.int .i64 s] ++ cap) W fun e W' => e = .returned (.bool (p s)) ∧ Below W.heap.size W W') :
    Calls Tryz.prog 82 #[v, .func (.func F) #[] cap] w fun e w' => e = .returned (.int .i64 (firstS p gs)) ∧ Below w.heap.size w w' := by
  have HV := Lib.hid hv
  have Hf := Lib.hid HF
  obtain ⟨A, c, hvv, h1, h2, _⟩ := hv
  subst hvv
  obtain ⟨len, hlen⟩ : ∃ len, gs.length = len := ⟨_, rfl⟩
  have HL := Lib.hid hlen
  rw [hlen] at h1 ⊢
  have h63 : len ≤ 9223372036854775807 := by omega
  clear hlen HF h2
  generalize hres : firstS p gs = res at *
  have Hres := Lib.hid hres
  clear hres
  go_enter Tryz.func82, Tryz.ntmps82
  go_wp2_with fail
  go_loopw [8] (fun i wr => ∃ k : Nat, k ≤ len ∧ i = .int .i64 k ∧ Hid (∀ (j : Nat) (g : Int), j < k → gs[j]? = some g → p g = false) ∧ Hid (Below w.heap.size w wr)) (fun i _ => len - (intOf i).toNat)
  case atStart => exact ⟨0, Nat.zero_le _, rfl, Lib.hid (fun j _ h => absurd h (Nat.not_lt_zero j)), Lib.hid (Below.refl _ _)⟩
  case round =>
    obtain ⟨k, hk, rfl, HN, HB⟩ := hrel
    by_cases hlt : k < len
    · obtain ⟨A', c', e, _, _, h3⟩ := HV.out
      obtain ⟨b, off, hA, hbw, hcell⟩ := h3 (by rw [HL.out]; omega)
      cases e
      subst hA
      obtain ⟨gn, hg⟩ : ∃ g, gs[k]? = some g := ⟨gs[k]'(by rw [HL.out]; exact hlt), List.getElem?_eq_getElem _⟩
      have c0 := (bcell HB.out hbw).trans (hcell k _ hg)
      have Hg := Lib.hid hg
      clear hcell h3 hg
      go_wp2_with fail
      refine (Hf.out gn _ HB.out).mono ?_
      rintro e w1 ⟨rfl, hb1⟩
      have HB1 := Lib.hid (HB.out.trans (hb1.mono HB.out.size))
      clear hb1
      cases hp : p gn
      · have Hp := Lib.hid hp
        clear hp
        go_wp2_with fail
        go_roundw
        case rel =>
          refine ⟨k + 1, by omega, by go_num, Lib.hid fun j g hj hg => ?_, HB1⟩
          rcases Nat.lt_or_ge j k with h | h
          · exact HN.out j g h hg
          · obtain rfl : j = k := by omega
            rw [Hg.out] at hg
            cases hg
            exact Hp.out
        case measure => simp [intOf]; omega
      · have HR := Lib.hid (firstS_hit (p := p) Hg.out hp fun j g hj hg => HN.out j g hj hg)
        clear hp
        go_wp2_with fail
        go_ret
        exact ⟨ret_int (HR.out.symm.trans Hres.out), HB1.out⟩
    · have HR := Lib.hid (firstS_none (p := p) (l := gs) fun j g hg => HN.out j g (by have := (List.getElem?_eq_some_iff.1 hg).1; have := HL.out; omega) hg)
      go_wp2_with fail
      go_ret
      exact ⟨ret_int (HR.out.symm.trans Hres.out), HB.out⟩
set_option maxRecDepth 100000 in
set_option maxHeartbeats 1000000 in
theorem ContainsI_any (F : FuncId) (cap : Array Value) (v : Value) (gs : List Int) (p : Int → Bool) (w : World) (hv : IntsAt w w.heap.size v gs) (hc : ∀ (a : Array Value) (W : World), (callFunc F a).run Tryz.prog W = .ok (.enter F a) W)
    (HF : ∀ (s : Int) (W : World), Below w.heap.size w W → Calls Tryz.prog F (#[.int .i64 s] ++ cap) W fun e W' => e = .returned (.bool (p s)) ∧ Below W.heap.size W W') :
    Calls Tryz.prog 62 #[v, .func (.func F) #[] cap] w fun e w' => e = .returned (.bool (gs.any p)) ∧ Below w.heap.size w w' := by
  have HC := Lib.hid (IndexI_any F cap v gs p w hv hc HF)
  have HA := Lib.hid (firstS_any p gs)
  clear hv hc HF
  generalize firstS p gs = r at *
  generalize gs.any p = bq at *
  go_enter Tryz.func62, Tryz.ntmps62
  go_wp2_with fail
  refine HC.out.mono ?_
  rintro e w1 ⟨rfl, hb1⟩
  have HB1 := Lib.hid hb1
  clear hb1
  go_wp2_with fail
  go_ret
  exact ⟨ret_bool HA.out, HB1.out⟩
end Go.Proofs.YtiknhfbkphoceaaGreatDoor
namespace Go.Proofs.YtiknhfbkphoceaaGreatDoor
open Go.RowKit

/-- The table of how many targets an end has. -/
structure Ways (w : World) : Prop where
  lt : 0 < w.heap.size
  w1 : w.cell? ⟨0, 1, none⟩ = some (.int .i64 0)
  w2 : w.cell? ⟨0, 2, none⟩ = some (.int .i64 1)
  w3 : w.cell? ⟨0, 3, none⟩ = some (.int .i64 2)
theorem Ways.below {W w : World} {B : Nat} (h : Ways W) (hb : Below B W w) (hB : 0 < B) (hz : B ≤ w.heap.size) : Ways w :=
  ⟨by omega, (bcell hb hB).trans h.w1, (bcell hb hB).trans h.w2, (bcell hb hB).trans h.w3⟩
theorem Ways.own {W w : World} (h : Ways W) (hb : Below W.heap.size W w) : Ways w := h.below hb h.lt hb.size
section
variable {nb regs : Int} {b : BlkU}
theorem end_e4 (h : inB b.kind 1 3 = false) : endE nb regs b = 4 := by unfold endE; rw [if_pos h]
theorem end_e9 (h : inB b.kind 1 3 = true) (h2 : b.to.length ≠ waysU b.kind) : endE nb regs b = 9 := by unfold endE; rw [if_neg (by rw [h]; simp), if_pos h2]
theorem end_e3 (h : inB b.kind 1 3 = true) (h2 : b.to.length = waysU b.kind) (h3 : (b.to.any fun n => !inB n 1 (nb - 1)) = true) : endE nb regs b = 3 := by
  unfold endE; rw [if_neg (by rw [h]; simp), if_neg (by simpa using h2), if_pos h3]
theorem end_e5 (h : inB b.kind 1 3 = true) (h2 : b.to.length = waysU b.kind) (h3 : (b.to.any fun n => !inB n 1 (nb - 1)) = false) (h4 : (b.kind = 3 ∧ b.to.getD 0 0 = b.to.getD 1 0) ∨ (b.kind = 2 ∧ b.on ≠ Opd.zero)) : endE nb regs b = 5 := by
  unfold endE; rw [if_neg (by rw [h]; simp), if_neg (by simpa using h2), if_neg (by rw [h3]; simp), if_pos h4]
theorem end_ev (h : inB b.kind 1 3 = true) (h2 : b.to.length = waysU b.kind) (h3 : (b.to.any fun n => !inB n 1 (nb - 1)) = false) (h4 : ¬ ((b.kind = 3 ∧ b.to.getD 0 0 = b.to.getD 1 0) ∨ (b.kind = 2 ∧ b.on ≠ Opd.zero))) : endE nb regs b = valE regs b.on := by
  unfold endE; rw [if_neg (by rw [h]; simp), if_neg (by simpa using h2), if_neg (by rw [h3]; simp), if_neg h4]
end
set_option maxRecDepth 100000 in
set_option maxHeartbeats 2000000 in
theorem end_any (gA fA bA aA : Option Addr) (gl gc fl fc bl bc al ac : Nat) (nm : ByteArray) (ps regs : Int) (tA : Option Addr) (tl tc : Nat) (b : BlkU) (w : World) (hr : 0 ≤ regs ∧ regs ≤ 100) (ht : IntsAt w w.heap.size (.slice tA tl tc) b.to) (hW : Ways w) (hbl : bl ≤ 9223372036854775807) :
    Calls Tryz.prog 84 #[.agg #[.slice gA gl gc, .slice fA fl fc, .string nm, .int .i64 ps, .int .i64 regs, .slice bA bl bc, .slice aA al ac], .agg #[.int .i64 b.kind, .bool b.on.reg, .int .i64 b.on.n, .slice tA tl tc]] w fun e w' => e = .returned (.int .i64 (endE (bl : Int) regs b)) ∧ Below w.heap.size w w' := by
  obtain ⟨phis, list, kind, ⟨r, n⟩, to⟩ := b
  have HT := Lib.hid ht
  have HWays := Lib.hid hW
  have hlen : to.length = tl := by
    obtain ⟨A', c', e, _⟩ := ht
    cases e
    rfl
  have HL := Lib.hid hlen
  have h63 : tl ≤ 9223372036854775807 := by
    obtain ⟨A', c', e, h1, h2, _⟩ := ht
    cases e
    omega
  have HRr := Lib.hid hr
  have HWi := Lib.hid (Within_any kind 1 3)
  have HV : Hid (inB kind 1 3 = decide (1 ≤ kind ∧ kind ≤ 3)) := Lib.hid rfl
  have w1 := hW.w1
  have w2 := hW.w2
  have w3 := hW.w3
  have wlt := hW.lt
  simp only at ht hlen
  clear ht hW hlen hr
  go_enter Tryz.func84, Tryz.ntmps84
  go_wp2_with fail
  refine (HWi.out _).mono ?_
  rintro e w' ⟨rfl, rfl⟩
  cases hq : decide (1 ≤ kind ∧ kind ≤ 3)
  · have HE : Hid (endE (bl : Int) regs ⟨phis, list, kind, ⟨r, n⟩, to⟩ = 4) := Lib.hid (end_e4 (by simp only [HV.out, hq]))
    clear hq
    go_wp2_with fail
    go_ret
    exact ⟨ret_int HE.out.symm, ((Below.refl _ _).alloc (Nat.le_refl _) _).alloc (by simp) _⟩
  · have hkin : inB kind 1 3 = true := by rw [HV.out]; exact hq
    have HKin := Lib.hid hkin
    rw [decide_eq_true_eq] at hq
    have HW0 : Hid (Below w.heap.size w ((w.alloc (.cells #[.slice gA gl gc, .slice fA fl fc, .string nm, .int .i64 ps, .int .i64 regs, .slice bA bl bc, .slice aA al ac] 118)).alloc (.cells #[.int .i64 kind, .bool r, .int .i64 n, .slice tA tl tc] 76))) := Lib.hid (((Below.refl _ _).alloc (Nat.le_refl _) _).alloc (by simp) _)
    have HC0 : Hid (Blk ((w.alloc (.cells #[.slice gA gl gc, .slice fA fl fc, .string nm, .int .i64 ps, .int .i64 regs, .slice bA bl bc, .slice aA al ac] 118)).alloc (.cells #[.int .i64 kind, .bool r, .int .i64 n, .slice tA tl tc] 76)) w.heap.size 118 #[.slice gA gl gc, .slice fA fl fc, .string nm, .int .i64 ps, .int .i64 regs, .slice bA bl bc, .slice aA al ac]) := Lib.hid ((Blk.new w _ _).alloc _)
    have HK0 : Hid (Blk ((w.alloc (.cells #[.slice gA gl gc, .slice fA fl fc, .string nm, .int .i64 ps, .int .i64 regs, .slice bA bl bc, .slice aA al ac] 118)).alloc (.cells #[.int .i64 kind, .bool r, .int .i64 n, .slice tA tl tc] 76)) (w.heap.size + 1) 76 #[.int .i64 kind, .bool r, .int .i64 n, .slice tA tl tc]) := Lib.hid (by simpa using Blk.new (w.alloc (.cells #[.slice gA gl gc, .slice fA fl fc, .string nm, .int .i64 ps, .int .i64 regs, .slice bA bl bc, .slice aA al ac] 118)) 76 #[.int .i64 kind, .bool r, .int .i64 n, .slice tA tl tc])
    go_wp2_with fail
    generalize (w.alloc (.cells #[.slice gA gl gc, .slice fA fl fc, .string nm, .int .i64 ps, .int .i64 regs, .slice bA bl bc, .slice aA al ac] 118)).alloc (.cells #[.int .i64 kind, .bool r, .int .i64 n, .slice tA tl tc] 76) = W at *
    have w1 := (bcell HW0.out wlt).trans w1
    have w2 := (bcell HW0.out wlt).trans w2
    have w3 := (bcell HW0.out wlt).trans w3
    have k0 := HK0.out.cell 0
    have k1 := HK0.out.cell 1
    have k2 := HK0.out.cell 2
    have k3 := HK0.out.cell 3
    have c5 := HC0.out.cell 5
    obtain rfl | rfl | rfl : kind = 1 ∨ kind = 2 ∨ kind = 3 := by omega
    · have HWa : Hid (waysU 1 = 0) := Lib.hid (by unfold waysU; simp)
      by_cases hl : tl = 0
      · have HL2 : Hid (to.length = waysU 1) := Lib.hid (by rw [HWa.out]; exact HL.out.trans hl)
        subst hl
        go_quiet (fail)
        go_wp2_with fail
        refine (ContainsI_any 100 #[.pointer (some ⟨w.heap.size, 0, none⟩)] _ to (fun n => !inB n 1 ((bl : Int) - 1)) _ ((HT.out.below (below_drewN HW0.out _) (Nat.le_refl _)).more HW0.out.size) (fun a W => MuLone.run_callFunc_enter Tryz.func100 (by kernel_rfl) rfl a W) (fun x V hV => ?_)).mono ?_
        · have := endClo_any x w.heap.size bA bl bc V ((bcell hV HC0.out.lt).trans (HC0.out.cell 5)) hbl
          simpa using this
        rintro e w4 ⟨rfl, hb4⟩
        have HW4 : Hid (Below w.heap.size w w4) := Lib.hid ((below_drewN HW0.out _).trans (hb4.mono HW0.out.size))
        have HC4 := Lib.hid ((show Blk (W.drewN _) _ _ _ from HC0.out).below hb4 HC0.out.lt)
        have HK4 := Lib.hid ((show Blk (W.drewN _) _ _ _ from HK0.out).below hb4 HK0.out.lt)
        have k0 := HK4.out.cell 0
        have k1 := HK4.out.cell 1
        have k2 := HK4.out.cell 2
        have k3 := HK4.out.cell 3
        have c0 := HC4.out.cell 0
        have c1 := HC4.out.cell 1
        have c2 := HC4.out.cell 2
        have c3 := HC4.out.cell 3
        have c4 := HC4.out.cell 4
        have c5 := HC4.out.cell 5
        have c6 := HC4.out.cell 6
        have HT4 := Lib.hid ((HT.out.below HW4.out (Nat.le_refl _)).more HW4.out.size)
        clear hb4 w1 w2 w3
        cases hany : (to.any fun n => !inB n 1 ((bl : Int) - 1))
        · have Hany := Lib.hid hany
          clear hany
          have HE : Hid (endE (bl : Int) regs ⟨phis, list, 1, ⟨r, n⟩, to⟩ = valE regs ⟨r, n⟩) := Lib.hid (end_ev HKin.out HL2.out Hany.out (by simp))
          go_wp2_with fail
          go_quiet (fail)
          go_wp2_with fail
          refine (val_any gA fA bA aA gl gc fl fc bl bc al ac nm ps regs ⟨r, n⟩ _ HRr.out).mono ?_
          rintro e w5 ⟨rfl, hb5⟩
          go_wp2_with fail
          go_ret
          exact ⟨ret_int HE.out.symm, (below_drewN HW4.out _).trans (hb5.mono HW4.out.size)⟩
        · have HE : Hid (endE (bl : Int) regs ⟨phis, list, 1, ⟨r, n⟩, to⟩ = 3) := Lib.hid (end_e3 HKin.out HL2.out hany)
          clear hany
          go_wp2_with fail
          go_ret
          exact ⟨ret_int HE.out.symm, HW4.out⟩
      · have HE : Hid (endE (bl : Int) regs ⟨phis, list, 1, ⟨r, n⟩, to⟩ = 9) := Lib.hid (end_e9 HKin.out (by rw [HWa.out]; intro h; exact hl (HL.out.symm.trans h)))
        have hlb : ((tl : Int) != 0) = true := by simp; omega
        clear hl
        go_quiet (fail)
        go_wp2_with fail
        go_ret
        exact ⟨ret_int HE.out.symm, below_drewN HW0.out _⟩
    · have HWa : Hid (waysU 2 = 1) := Lib.hid (by unfold waysU; simp)
      by_cases hl : tl = 1
      · have HL2 : Hid (to.length = waysU 2) := Lib.hid (by rw [HWa.out]; exact HL.out.trans hl)
        subst hl
        go_quiet (fail)
        go_wp2_with fail
        refine (ContainsI_any 100 #[.pointer (some ⟨w.heap.size, 0, none⟩)] _ to (fun n => !inB n 1 ((bl : Int) - 1)) _ ((HT.out.below (below_drewN HW0.out _) (Nat.le_refl _)).more HW0.out.size) (fun a W => MuLone.run_callFunc_enter Tryz.func100 (by kernel_rfl) rfl a W) (fun x V hV => ?_)).mono ?_
        · have := endClo_any x w.heap.size bA bl bc V ((bcell hV HC0.out.lt).trans (HC0.out.cell 5)) hbl
          simpa using this
        rintro e w4 ⟨rfl, hb4⟩
        have HW4 : Hid (Below w.heap.size w w4) := Lib.hid ((below_drewN HW0.out _).trans (hb4.mono HW0.out.size))
        have HC4 := Lib.hid ((show Blk (W.drewN _) _ _ _ from HC0.out).below hb4 HC0.out.lt)
        have HK4 := Lib.hid ((show Blk (W.drewN _) _ _ _ from HK0.out).below hb4 HK0.out.lt)
        have k0 := HK4.out.cell 0
        have k1 := HK4.out.cell 1
        have k2 := HK4.out.cell 2
        have k3 := HK4.out.cell 3
        have c0 := HC4.out.cell 0
        have c1 := HC4.out.cell 1
        have c2 := HC4.out.cell 2
        have c3 := HC4.out.cell 3
        have c4 := HC4.out.cell 4
        have c5 := HC4.out.cell 5
        have c6 := HC4.out.cell 6
        have HT4 := Lib.hid ((HT.out.below HW4.out (Nat.le_refl _)).more HW4.out.size)
        clear hb4 w1 w2 w3
        cases hany : (to.any fun n => !inB n 1 ((bl : Int) - 1))
        · have Hany := Lib.hid hany
          clear hany
          by_cases hon : r = false ∧ n = 0
          · have HE : Hid (endE (bl : Int) regs ⟨phis, list, 2, ⟨r, n⟩, to⟩ = valE regs ⟨r, n⟩) := Lib.hid (end_ev HKin.out HL2.out Hany.out (by simp [hon.1, hon.2, Opd.zero]))
            obtain ⟨rfl, rfl⟩ := hon
            go_wp2_with fail
            go_quiet (fail)
            go_wp2_with fail
            refine (val_any gA fA bA aA gl gc fl fc bl bc al ac nm ps regs ⟨false, 0⟩ _ HRr.out).mono ?_
            rintro e w5 ⟨rfl, hb5⟩
            go_wp2_with fail
            go_ret
            exact ⟨ret_int HE.out.symm, (below_drewN HW4.out _).trans (hb5.mono HW4.out.size)⟩
          · have HE : Hid (endE (bl : Int) regs ⟨phis, list, 2, ⟨r, n⟩, to⟩ = 5) := Lib.hid (end_e5 HKin.out HL2.out Hany.out (.inr ⟨rfl, fun h => hon (by cases h; exact ⟨rfl, rfl⟩)⟩))
            rcases r with _ | _
            · have hn : (n == 0) = false := by simp at hon ⊢; exact hon
              have Hon := Lib.hid hon
              clear hon
              go_wp2_with fail
              go_quiet (fail)
              go_wp2_with fail
              go_ret
              exact ⟨ret_int HE.out.symm, below_drewN HW4.out _⟩
            · clear hon
              go_wp2_with fail
              go_quiet (fail)
              go_wp2_with fail
              go_ret
              exact ⟨ret_int HE.out.symm, below_drewN HW4.out _⟩
        · have HE : Hid (endE (bl : Int) regs ⟨phis, list, 2, ⟨r, n⟩, to⟩ = 3) := Lib.hid (end_e3 HKin.out HL2.out hany)
          clear hany
          go_wp2_with fail
          go_ret
          exact ⟨ret_int HE.out.symm, HW4.out⟩
      · have HE : Hid (endE (bl : Int) regs ⟨phis, list, 2, ⟨r, n⟩, to⟩ = 9) := Lib.hid (end_e9 HKin.out (by rw [HWa.out]; intro h; exact hl (HL.out.symm.trans h)))
        have hlb : ((tl : Int) != 1) = true := by simp; omega
        clear hl
        go_quiet (fail)
        go_wp2_with fail
        go_ret
        exact ⟨ret_int HE.out.symm, below_drewN HW0.out _⟩
    · have HWa : Hid (waysU 3 = 2) := Lib.hid (by unfold waysU; simp)
      by_cases hl : tl = 2
      · have HL2 : Hid (to.length = waysU 3) := Lib.hid (by rw [HWa.out]; exact HL.out.trans hl)
        subst hl
        go_quiet (fail)
        go_wp2_with fail
        refine (ContainsI_any 100 #[.pointer (some ⟨w.heap.size, 0, none⟩)] _ to (fun n => !inB n 1 ((bl : Int) - 1)) _ ((HT.out.below (below_drewN HW0.out _) (Nat.le_refl _)).more HW0.out.size) (fun a W => MuLone.run_callFunc_enter Tryz.func100 (by kernel_rfl) rfl a W) (fun x V hV => ?_)).mono ?_
        · have := endClo_any x w.heap.size bA bl bc V ((bcell hV HC0.out.lt).trans (HC0.out.cell 5)) hbl
          simpa using this
        rintro e w4 ⟨rfl, hb4⟩
        have HW4 : Hid (Below w.heap.size w w4) := Lib.hid ((below_drewN HW0.out _).trans (hb4.mono HW0.out.size))
        have HC4 := Lib.hid ((show Blk (W.drewN _) _ _ _ from HC0.out).below hb4 HC0.out.lt)
        have HK4 := Lib.hid ((show Blk (W.drewN _) _ _ _ from HK0.out).below hb4 HK0.out.lt)
        have k0 := HK4.out.cell 0
        have k1 := HK4.out.cell 1
        have k2 := HK4.out.cell 2
        have k3 := HK4.out.cell 3
        have c0 := HC4.out.cell 0
        have c1 := HC4.out.cell 1
        have c2 := HC4.out.cell 2
        have c3 := HC4.out.cell 3
        have c4 := HC4.out.cell 4
        have c5 := HC4.out.cell 5
        have c6 := HC4.out.cell 6
        have HT4 := Lib.hid ((HT.out.below HW4.out (Nat.le_refl _)).more HW4.out.size)
        clear hb4 w1 w2 w3
        cases hany : (to.any fun n => !inB n 1 ((bl : Int) - 1))
        · have Hany := Lib.hid hany
          clear hany
          obtain ⟨x0, hx0⟩ : ∃ x, to[0]? = some x := ⟨to[0]'(by have := HL.out; omega), List.getElem?_eq_getElem _⟩
          obtain ⟨x1, hx1⟩ : ∃ x, to[1]? = some x := ⟨to[1]'(by have := HL.out; omega), List.getElem?_eq_getElem _⟩
          obtain ⟨A', c', eA, _, _, h3⟩ := HT4.out
          obtain ⟨tb, toff, hA, htb, htc⟩ := h3 (by have := HL.out; omega)
          obtain rfl : A' = tA := ((Value.slice.inj eA).1).symm
          subst hA
          have d0 := htc 0 _ hx0
          have d1 := htc 1 _ hx1
          have Hx := Lib.hid (And.intro hx0 hx1)
          clear eA h3 htc hx0 hx1
          simp only [Nat.add_zero] at d0
          by_cases hxx : x0 = x1
          · have HE : Hid (endE (bl : Int) regs ⟨phis, list, 3, ⟨r, n⟩, to⟩ = 5) := Lib.hid (end_e5 HKin.out HL2.out Hany.out (.inl ⟨rfl, by simp only [List.getD_eq_getElem?_getD, Hx.out.1, Hx.out.2, hxx]⟩))
            subst hxx
            go_wp2_with fail
            go_quiet (fail)
            go_wp2_with fail
            go_ret
            exact ⟨ret_int HE.out.symm, below_drewN HW4.out _⟩
          · have HE : Hid (endE (bl : Int) regs ⟨phis, list, 3, ⟨r, n⟩, to⟩ = valE regs ⟨r, n⟩) := Lib.hid (end_ev HKin.out HL2.out Hany.out (by simp only [List.getD_eq_getElem?_getD, Hx.out.1, Hx.out.2, Option.getD_some]; simp [hxx]))
            have hxb : (x0 == x1) = false := by simpa using hxx
            have Hxx := Lib.hid hxx
            clear hxx
            go_wp2_with fail
            go_quiet (fail)
            go_wp2_with fail
            refine (val_any gA fA bA aA gl gc fl fc bl bc al ac nm ps regs ⟨r, n⟩ _ HRr.out).mono ?_
            rintro e w5 ⟨rfl, hb5⟩
            go_wp2_with fail
            go_ret
            exact ⟨ret_int HE.out.symm, (below_drewN HW4.out _).trans (hb5.mono HW4.out.size)⟩
        · have HE : Hid (endE (bl : Int) regs ⟨phis, list, 3, ⟨r, n⟩, to⟩ = 3) := Lib.hid (end_e3 HKin.out HL2.out hany)
          clear hany
          go_wp2_with fail
          go_ret
          exact ⟨ret_int HE.out.symm, HW4.out⟩
      · have HE : Hid (endE (bl : Int) regs ⟨phis, list, 3, ⟨r, n⟩, to⟩ = 9) := Lib.hid (end_e9 HKin.out (by rw [HWa.out]; intro h; exact hl (HL.out.symm.trans h)))
        have hlb : ((tl : Int) != 2) = true := by simp; omega
        clear hl
        go_quiet (fail)
        go_wp2_with fail
        go_ret
        exact ⟨ret_int HE.out.symm, below_drewN HW0.out _⟩
end Go.Proofs.YtiknhfbkphoceaaGreatDoor
namespace Go.Proofs.YtiknhfbkphoceaaGreatDoor
open Go.RowKit

theorem Blk.set3 {w : World} {g : Nat} {t : TypeId} {x0 x1 x2 : Value} (h : Blk w g t #[x0, x1, x2]) (u v x : Value) : Blk (((w.setCell ⟨g, 0, none⟩ u).setCell ⟨g, 1, none⟩ v).setCell ⟨g, 2, none⟩ x) g t #[u, v, x] := ((h.set_ 0 u).set_ 1 v).set_ 2 x
def shapeV (op : Int) : Value := .agg #[.bool (hasD op), .bool (hasA op), .bool (hasB op)]
theorem shape_of {op : Int} {d a b : Bool} (h : hasD op = d ∧ hasA op = a ∧ hasB op = b) : Ending.returned (.agg #[.bool d, .bool a, .bool b]) = .returned (shapeV op) := by
  unfold shapeV
  rw [h.1, h.2.1, h.2.2]
theorem has_one {op : Int} (h : op = 1 ∨ op = 16 ∨ op = 17 ∨ op = 18) : hasD op = true ∧ hasA op = true ∧ hasB op = false := by
  rcases h with rfl | rfl | rfl | rfl <;> decide
theorem has_two {op : Int} (h : 2 ≤ op ∧ op ≤ 15) : hasD op = true ∧ hasA op = true ∧ hasB op = true := by
  unfold hasD hasA hasB
  refine ⟨decide_eq_true ?_, decide_eq_true ?_, decide_eq_true ?_⟩ <;> omega
theorem has_store : hasD 19 = false ∧ hasA 19 = true ∧ hasB 19 = true := by decide
theorem has_call : hasD 20 = true ∧ hasA 20 = false ∧ hasB 20 = false := by decide
theorem has_read : hasD 21 = true ∧ hasA 21 = false ∧ hasB 21 = false := by decide
theorem has_print : hasD 22 = false ∧ hasA 22 = true ∧ hasB 22 = false := by decide
set_option maxRecDepth 100000 in
set_option maxHeartbeats 1000000 in
theorem Shapes_any (op : Int) (w : World) (h : 1 ≤ op ∧ op ≤ 22) : Calls Tryz.prog 55 #[.int .i64 op] w fun e w' => e = .returned (shapeV op) ∧ Below w.heap.size w w' := by
  rcases (by omega : (op = 1 ∨ op = 16 ∨ op = 17 ∨ op = 18) ∨ (2 ≤ op ∧ op ≤ 15) ∨ op = 19 ∨ op = 20 ∨ op = 21 ∨ op = 22) with h1 | h1 | rfl | rfl | rfl | rfl
  · have HE := Lib.hid (has_one h1)
    rcases h1 with rfl | rfl | rfl | rfl
    all_goals
      go_enter Tryz.func55, Tryz.ntmps55
      go_wp2_with fail
      exact end_cell rfl rfl (Blk.new w _ _) Tryz.underlying101 rfl (by kernel_rfl) rfl ⟨shape_of HE.out, (Below.refl _ _).alloc (Nat.le_refl _) _⟩
  · have HE := Lib.hid (has_two h1)
    have b1 : (op == 1) = false := by simp; omega
    have b2 : (op == 16) = false := by simp; omega
    have b3 : (op == 17) = false := by simp; omega
    have b4 : (op == 18) = false := by simp; omega
    obtain ⟨h2, h3⟩ := h1
    clear h
    go_enter Tryz.func55, Tryz.ntmps55
    go_wp2_with fail
    exact end_cell rfl rfl (Blk.new w _ _) Tryz.underlying101 rfl (by kernel_rfl) rfl ⟨shape_of HE.out, (Below.refl _ _).alloc (Nat.le_refl _) _⟩
  · go_enter Tryz.func55, Tryz.ntmps55
    go_wp2_with fail
    exact end_cell rfl rfl (Blk.new w _ _) Tryz.underlying101 rfl (by kernel_rfl) rfl ⟨shape_of has_store, (Below.refl _ _).alloc (Nat.le_refl _) _⟩
  · go_enter Tryz.func55, Tryz.ntmps55
    go_wp2_with fail
    exact end_cell rfl rfl (Blk.new w _ _) Tryz.underlying101 rfl (by kernel_rfl) rfl ⟨shape_of has_call, (Below.refl _ _).alloc (Nat.le_refl _) _⟩
  · go_enter Tryz.func55, Tryz.ntmps55
    go_wp2_with fail
    exact end_cell rfl rfl (Blk.new w _ _) Tryz.underlying101 rfl (by kernel_rfl) rfl ⟨shape_of has_read, (Below.refl _ _).alloc (Nat.le_refl _) _⟩
  · go_enter Tryz.func55, Tryz.ntmps55
    go_wp2_with fail
    exact end_cell rfl rfl (Blk.new w _ _) Tryz.underlying101 rfl (by kernel_rfl) rfl ⟨shape_of has_print, (Below.refl _ _).alloc (Nat.le_refl _) _⟩
/-- The first fault of three that are asked one behind the other. -/
def first3 (a b c : Int) : Int := if a ≠ 0 then a else if b ≠ 0 then b else c
set_option maxRecDepth 100000 in
set_option maxHeartbeats 1000000 in
theorem first_any (F1 F2 F3 : FuncId) (c1 c2 c3 : Array Value) (e1 e2 e3 : Int) (g : Nat) (w : World)
    (k0 : w.cell? ⟨g, 0, none⟩ = some (.func (.func F1) #[] c1)) (k1 : w.cell? ⟨g, 1, none⟩ = some (.func (.func F2) #[] c2)) (k2 : w.cell? ⟨g, 2, none⟩ = some (.func (.func F3) #[] c3)) (hg : g < w.heap.size)
    (h1 : ∀ (a : Array Value) (W : World), (callFunc F1 a).run Tryz.prog W = .ok (.enter F1 a) W) (h2 : ∀ (a : Array Value) (W : World), (callFunc F2 a).run Tryz.prog W = .ok (.enter F2 a) W) (h3 : ∀ (a : Array Value) (W : World), (callFunc F3 a).run Tryz.prog W = .ok (.enter F3 a) W)
    (H1 : ∀ W : World, Below w.heap.size w W → Calls Tryz.prog F1 c1 W fun e W' => e = .returned (.int .i64 e1) ∧ Below W.heap.size W W')
    (H2 : ∀ W : World, Below w.heap.size w W → Calls Tryz.prog F2 c2 W fun e W' => e = .returned (.int .i64 e2) ∧ Below W.heap.size W W')
    (H3 : ∀ W : World, Below w.heap.size w W → Calls Tryz.prog F3 c3 W fun e W' => e = .returned (.int .i64 e3) ∧ Below W.heap.size W W') :
    Calls Tryz.prog 103 #[.slice (some ⟨g, 0, none⟩) 3 3] w fun e w' => e = .returned (.int .i64 (first3 e1 e2 e3)) ∧ Below w.heap.size w w' := by
  have HH1 := Lib.hid H1
  have HH2 := Lib.hid H2
  have HH3 := Lib.hid H3
  clear H1 H2 H3
  go_enter Tryz.func103, Tryz.ntmps103
  go_wp2_with fail
  go_loopw [8] (fun i wr => (i = .int .i64 0 ∨ (i = .int .i64 1 ∧ Hid (e1 = 0)) ∨ (i = .int .i64 2 ∧ Hid (e1 = 0 ∧ e2 = 0)) ∨ (i = .int .i64 3 ∧ Hid (e1 = 0 ∧ e2 = 0 ∧ e3 = 0))) ∧ Hid (Below w.heap.size w wr)) (fun i _ => 3 - (intOf i).toNat)
  case atStart => exact ⟨.inl rfl, Lib.hid (Below.refl _ _)⟩
  case round =>
    obtain ⟨hi, HB⟩ := hrel
    have k0 := (bcell HB.out hg).trans k0
    have k1 := (bcell HB.out hg).trans k1
    have k2 := (bcell HB.out hg).trans k2
    rcases hi with rfl | ⟨rfl, Ha⟩ | ⟨rfl, Ha⟩ | ⟨rfl, Ha⟩
    · go_wp2_with fail
      refine (HH1.out _ HB.out).mono ?_
      rintro e w1 ⟨rfl, hb1⟩
      have HB1 := Lib.hid (HB.out.trans (hb1.mono HB.out.size))
      clear hb1
      by_cases he : e1 = 0
      · have He := Lib.hid he
        subst he
        go_wp2_with fail
        go_roundw
        case rel => exact ⟨.inr (.inl ⟨by go_num, He⟩), HB1⟩
        case measure => simp [intOf]
      · have HE : Hid (first3 e1 e2 e3 = e1) := Lib.hid (by unfold first3; rw [if_pos he])
        have hb : (e1 != 0) = true := by simpa using he
        clear he
        go_wp2_with fail
        go_ret
        exact ⟨ret_int HE.out.symm, HB1.out⟩
    · go_wp2_with fail
      refine (HH2.out _ HB.out).mono ?_
      rintro e w1 ⟨rfl, hb1⟩
      have HB1 := Lib.hid (HB.out.trans (hb1.mono HB.out.size))
      clear hb1
      by_cases he : e2 = 0
      · have Hn : Hid (e1 = 0 ∧ e2 = 0) := Lib.hid ⟨Ha.out, he⟩
        subst he
        go_wp2_with fail
        go_roundw
        case rel => exact ⟨.inr (.inr (.inl ⟨by go_num, Hn⟩)), HB1⟩
        case measure => simp [intOf]
      · have HE : Hid (first3 e1 e2 e3 = e2) := Lib.hid (by unfold first3; rw [if_neg (by simpa using Ha.out), if_pos he])
        have hb : (e2 != 0) = true := by simpa using he
        clear he
        go_wp2_with fail
        go_ret
        exact ⟨ret_int HE.out.symm, HB1.out⟩
    · go_wp2_with fail
      refine (HH3.out _ HB.out).mono ?_
      rintro e w1 ⟨rfl, hb1⟩
      have HB1 := Lib.hid (HB.out.trans (hb1.mono HB.out.size))
      clear hb1
      by_cases he : e3 = 0
      · have Hn : Hid (e1 = 0 ∧ e2 = 0 ∧ e3 = 0) := Lib.hid ⟨Ha.out.1, Ha.out.2, he⟩
        subst he
        go_wp2_with fail
        go_roundw
        case rel => exact ⟨.inr (.inr (.inr ⟨by go_num, Hn⟩)), HB1⟩
        case measure => simp [intOf]
      · have HE : Hid (first3 e1 e2 e3 = e3) := Lib.hid (by unfold first3; rw [if_neg (by simpa using Ha.out.1), if_neg (by simpa using Ha.out.2)])
        have hb : (e3 != 0) = true := by simpa using he
        clear he
        go_wp2_with fail
        go_ret
        exact ⟨ret_int HE.out.symm, HB1.out⟩
    · have HE : Hid (first3 e1 e2 e3 = 0) := Lib.hid (by unfold first3; rw [if_neg (by simpa using Ha.out.1), if_neg (by simpa using Ha.out.2.1)]; exact Ha.out.2.2)
      go_wp2_with fail
      go_ret
      exact ⟨ret_int HE.out.symm, HB.out⟩
end Go.Proofs.YtiknhfbkphoceaaGreatDoor
