/-
  code.checker: val, dst, and what else a checker asks of one thing.
  Conditions: as the theorems say.
-/
import Derived.Test.YtgnkkgbjcodihaaDoorUnL
namespace Go.Proofs.YtgnkkgbjcodihaaDoor
open Go.RowKit

set_option maxRecDepth 100000 in
set_option maxHeartbeats 1000000 in
theorem val_any (gA fA bA aA : Option Addr) (gl gc fl fc bl bc al ac : Nat) (nm : ByteArray) (ps regs : Int) (v : Opd) (w : World) (hr : 0 ≤ regs ∧ regs ≤ 100) :
    Calls Tryd.prog 93 #[.agg #[.slice gA gl gc, .slice fA fl fc, .string nm, .int .i64 ps, .int .i64 regs, .slice bA bl bc, .slice aA al ac], .agg #[.bool v.reg, .int .i64 v.n]] w fun e w' => e = .returned (.int .i64 (valE regs v)) ∧ Below w.heap.size w w' := by
  obtain ⟨r, n⟩ := v
  obtain ⟨h0, h1⟩ := hr
  cases r
  · have HE : Hid (valE regs ⟨false, n⟩ = 0) := Lib.hid (by unfold valE; rw [if_neg (by simp)])
    go_enter Tryd.func93, Tryd.ntmps93
    go_wp2_with fail
    go_ret
    exact ⟨ret_int HE.out.symm, ((Below.refl _ _).alloc (Nat.le_refl _) _).alloc (by simp) _⟩
  · have HW := Lib.hid (Within_any n 0 (regs - 1))
    have HV : Hid (inB n 0 (regs - 1) = decide (0 ≤ n ∧ n ≤ regs - 1)) := Lib.hid rfl
    go_enter Tryd.func93, Tryd.ntmps93
    go_wp2_with fail
    refine (HW.out _).mono ?_
    rintro e w' ⟨rfl, rfl⟩
    cases hq : decide (0 ≤ n ∧ n ≤ regs - 1)
    · have HE : Hid (valE regs ⟨true, n⟩ = 3) := Lib.hid (by unfold valE; rw [if_pos (by simp only [HV.out, hq]; simp)])
      clear hq
      go_wp2_with fail
      go_ret
      exact ⟨ret_int HE.out.symm, ((Below.refl _ _).alloc (Nat.le_refl _) _).alloc (by simp) _⟩
    · have HE : Hid (valE regs ⟨true, n⟩ = 0) := Lib.hid (by unfold valE; rw [if_neg (by simp only [HV.out, hq]; simp)])
      clear hq
      go_wp2_with fail
      go_ret
      exact ⟨ret_int HE.out.symm, ((Below.refl _ _).alloc (Nat.le_refl _) _).alloc (by simp) _⟩
set_option maxRecDepth 100000 in
set_option maxHeartbeats 1000000 in
theorem dst_any (gA fA bA aA : Option Addr) (gl gc fl fc bl bc al ac : Nat) (nm : ByteArray) (ps regs : Int) (n : Int) (w : World) (hr : 0 ≤ regs ∧ regs ≤ 100) :
    Calls Tryd.prog 94 #[.agg #[.slice gA gl gc, .slice fA fl fc, .string nm, .int .i64 ps, .int .i64 regs, .slice bA bl bc, .slice aA al ac], .int .i64 n] w fun e w' => e = .returned (.int .i64 (dstE regs n)) ∧ Below w.heap.size w w' := by
  obtain ⟨h0, h1⟩ := hr
  have HW := Lib.hid (Within_any n 0 (regs - 1))
  have HV : Hid (inB n 0 (regs - 1) = decide (0 ≤ n ∧ n ≤ regs - 1)) := Lib.hid rfl
  go_enter Tryd.func94, Tryd.ntmps94
  go_wp2_with fail
  refine (HW.out _).mono ?_
  rintro e w' ⟨rfl, rfl⟩
  cases hq : decide (0 ≤ n ∧ n ≤ regs - 1)
  · have HE : Hid (dstE regs n = 3) := Lib.hid (by unfold dstE; rw [if_pos (by simp only [HV.out, hq])])
    clear hq
    go_wp2_with fail
    go_ret
    exact ⟨ret_int HE.out.symm, (Below.refl _ _).alloc (Nat.le_refl _) _⟩
  · have HE : Hid (dstE regs n = 0) := Lib.hid (by unfold dstE; rw [if_neg (by simp only [HV.out, hq]; simp)])
    clear hq
    go_wp2_with fail
    go_ret
    exact ⟨ret_int HE.out.symm, (Below.refl _ _).alloc (Nat.le_refl _) _⟩
set_option maxRecDepth 100000 in
set_option maxHeartbeats 1000000 in
theorem endClo_any (n : Int) (gb : Nat) (bA : Option Addr) (bl bc : Nat) (w : World) (hc : w.cell? ⟨gb, 5, none⟩ = some (.slice bA bl bc)) (hbl : bl ≤ 9223372036854775807) :
    Calls Tryd.prog 92 #[.int .i64 n, .pointer (some ⟨gb, 0, none⟩)] w fun e w' => e = .returned (.bool (!inB n 1 ((bl : Int) - 1))) ∧ Below w.heap.size w w' := by
  have HW := Lib.hid (Within_any n 1 ((bl : Int) - 1))
  have HV : Hid (inB n 1 ((bl : Int) - 1) = decide (1 ≤ n ∧ n ≤ (bl : Int) - 1)) := Lib.hid rfl
  go_enter Tryd.func92, Tryd.ntmps92
  go_wp2_with fail
  refine (HW.out _).mono ?_
  rintro e w' ⟨rfl, rfl⟩
  go_wp2_with fail
  go_ret
  exact ⟨ret_bool (by rw [HV.out]; simp), Below.refl _ _⟩
set_option maxRecDepth 100000 in
set_option maxHeartbeats 1000000 in
theorem IndexI_any (F : FuncId) (cap : Array Value) (v : Value) (gs : List Int) (p : Int → Bool) (w : World) (hv : IntsAt w w.heap.size v gs) (hc : ∀ (a : Array Value) (W : World), (callFunc F a).run Tryd.prog W = .ok (.enter F a) W)
    (HF : ∀ (s : Int) (W : World), Below w.heap.size w W → Calls Tryd.prog F (#[.int .i64 s] ++ cap) W fun e W' => e = .returned (.bool (p s)) ∧ Below W.heap.size W W') :
    Calls Tryd.prog 118 #[v, .func (.func F) #[] cap] w fun e w' => e = .returned (.int .i64 (firstS p gs)) ∧ Below w.heap.size w w' := by
  have HV := Lib.hid hv
  have Hf := Lib.hid HF
  obtain ⟨A, c, hvv, h1, h2, _⟩ := hv
  subst hvv
  obtain ⟨len, hlen⟩ : ∃ len, gs.length = len := ⟨_, rfl⟩
  have HL := Lib.hid hlen
  rw [hlen] at h1 ⊢
  have h63 : len ≤ 9223372036854775807 := by omega
  clear hlen HF h2
  generalize hres : firstS p gs = res at *
  have Hres := Lib.hid hres
  clear hres
  go_enter Tryd.func118, Tryd.ntmps118
  go_wp2_with fail
  go_loopw [8] (fun i wr => ∃ k : Nat, k ≤ len ∧ i = .int .i64 k ∧ Hid (∀ (j : Nat) (g : Int), j < k → gs[j]? = some g → p g = false) ∧ Hid (Below w.heap.size w wr)) (fun i _ => len - (intOf i).toNat)
  case atStart => exact ⟨0, Nat.zero_le _, rfl, Lib.hid (fun j _ h => absurd h (Nat.not_lt_zero j)), Lib.hid (Below.refl _ _)⟩
  case round =>
    obtain ⟨k, hk, rfl, HN, HB⟩ := hrel
    by_cases hlt : k < len
    · obtain ⟨A', c', e, _, _, h3⟩ := HV.out
      obtain ⟨b, off, hA, hbw, hcell⟩ := h3 (by rw [HL.out]; omega)
      cases e
      subst hA
      obtain ⟨gn, hg⟩ : ∃ g, gs[k]? = some g := ⟨gs[k]'(by rw [HL.out]; exact hlt), List.getElem?_eq_getElem _⟩
      have c0 := (bcell HB.out hbw).trans (hcell k _ hg)
      have Hg := Lib.hid hg
      clear hcell h3 hg
      go_wp2_with fail
      refine (Hf.out gn _ HB.out).mono ?_
      rintro e w1 ⟨rfl, hb1⟩
      have HB1 := Lib.hid (HB.out.trans (hb1.mono HB.out.size))
      clear hb1
      cases hp : p gn
      · have Hp := Lib.hid hp
        clear hp
        go_wp2_with fail
        go_roundw
        case rel =>
          refine ⟨k + 1, by omega, by go_num, Lib.hid fun j g hj hg => ?_, HB1⟩
          rcases Nat.lt_or_ge j k with h | h
          · exact HN.out j g h hg
          · obtain rfl : j = k := by omega
            rw [Hg.out] at hg
            cases hg
            exact Hp.out
        case measure => simp [intOf]; omega
      · have HR := Lib.hid (firstS_hit (p := p) Hg.out hp fun j g hj hg => HN.out j g hj hg)
        clear hp
        go_wp2_with fail
        go_ret
        exact ⟨ret_int (HR.out.symm.trans Hres.out), HB1.out⟩
    · have HR := Lib.hid (firstS_none (p := p) (l := gs) fun j g hg => HN.out j g (by have := (List.getElem?_eq_some_iff.1 hg).1; have := HL.out; omega) hg)
      go_wp2_with fail
      go_ret
      exact ⟨ret_int (HR.out.symm.trans Hres.out), HB.out⟩
set_option maxRecDepth 100000 in
set_option maxHeartbeats 1000000 in
theorem ContainsI_any (F : FuncId) (cap : Array Value) (v : Value) (gs : List Int) (p : Int → Bool) (w : World) (hv : IntsAt w w.heap.size v gs) (hc : ∀ (a : Array Value) (W : World), (callFunc F a).run Tryd.prog W = .ok (.enter F a) W)
    (HF : ∀ (s : Int) (W : World), Below w.heap.size w W → Calls Tryd.prog F (#[.int .i64 s] ++ cap) W fun e W' => e = .returned (.bool (p s)) ∧ Below W.heap.size W W') :
    Calls Tryd.prog 90 #[v, .func (.func F) #[] cap] w fun e w' => e = .returned (.bool (gs.any p)) ∧ Below w.heap.size w w' := by
  have HC := Lib.hid (IndexI_any F cap v gs p w hv hc HF)
  have HA := Lib.hid (firstS_any p gs)
  clear hv hc HF
  generalize firstS p gs = r at *
  generalize gs.any p = bq at *
  go_enter Tryd.func90, Tryd.ntmps90
  go_wp2_with fail
  refine HC.out.mono ?_
  rintro e w1 ⟨rfl, hb1⟩
  have HB1 := Lib.hid hb1
  clear hb1
  go_wp2_with fail
  go_ret
  exact ⟨ret_bool HA.out, HB1.out⟩
end Go.Proofs.YtgnkkgbjcodihaaDoor
