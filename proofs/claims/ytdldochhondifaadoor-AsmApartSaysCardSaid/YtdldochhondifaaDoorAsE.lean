/-
  The reference's numerals, words and orders.
  Conditions: none.
-/
import Derived.Test.YtdldochhondifaaDoorAsP
import Derived.Deep.DeepCutAuto
import Derived.BigQuiet
import Derived.BigRegion
namespace Go.Proofs.YtdldochhondifaaDoor
open Go.RowKit
attribute [local go_sem] Oper.semAt_some

theorem dec_small {u : Nat} (h : u < 10) : Lib.decDigits u = [UInt8.ofNat (48 + u)] := by rw [Lib.decDigits, dif_pos h]
theorem dec_big {u : Nat} (h : ¬ u < 10) : Lib.decDigits u = Lib.decDigits (u / 10) ++ [UInt8.ofNat (48 + u % 10)] := by rw [Lib.decDigits, dif_neg h]
theorem digit_cut {u : Nat} (h : u < 10) : ({ data := #[48, 49, 50, 51, 52, 53, 54, 55, 56, 57] } : ByteArray).extract u (u + 1) = mkS (Lib.decDigits u) := by
  rw [dec_small h]
  obtain rfl | rfl | rfl | rfl | rfl | rfl | rfl | rfl | rfl | rfl : u = 0 ∨ u = 1 ∨ u = 2 ∨ u = 3 ∨ u = 4 ∨ u = 5 ∨ u = 6 ∨ u = 7 ∨ u = 8 ∨ u = 9 := by omega
  all_goals rfl
theorem tdiv10 (u : Nat) (h : u ≤ 9223372036854775807) : wrap64 ((u : Int).tdiv 10) = ((u / 10 : Nat) : Int) := by
  have e : (u : Int).tdiv 10 = ((u / 10 : Nat) : Int) := by
    rw [Int.tdiv_eq_ediv_of_nonneg (by omega)]
    omega
  rw [e]
  exact IntWalk.wrap64_in _ ⟨by omega, by omega⟩
theorem tmod10 (u : Nat) : (u : Int).tmod 10 = ((u % 10 : Nat) : Int) := by
  rw [Int.tmod_eq_emod_of_nonneg (by omega)]
  omega
set_option maxRecDepth 100000 in
theorem Digits_nat : ∀ (u : Nat), u ≤ 9223372036854775807 → ∀ w, Calls Tryd.prog 20 #[.int .i64 (u : Int)] w fun e w' => e = .returned (.string (mkS (Lib.decDigits u))) ∧ w = w' := by
  intro u
  induction u using Nat.strongRecOn with
  | _ u ih =>
    intro hu w
    have h0 : ¬ (u : Int) < 0 := by omega
    have h0' : (0 : Int) ≤ (u : Int) := by omega
    by_cases h : u < 10
    · have hs := Lib.hid (digit_cut h)
      have h1 : (u : Int) < 10 := by omega
      clear ih
      go_enter Tryd.func20, Tryd.ntmps20
      go_wp2_with fail
      all_goals
        go_ret
        exact ⟨ret_str hs.out, rfl⟩
    · have h1 : ¬ (u : Int) < 10 := by omega
      have hq := tdiv10 u hu
      have hr := tmod10 u
      have HA := Lib.hid (ih (u / 10) (by omega) (by omega) w)
      have HB := Lib.hid (ih (u % 10) (by omega) (by omega) w)
      rw [Int.natCast_ediv, show ((10 : Nat) : Int) = 10 from rfl] at HA
      rw [Int.natCast_emod, show ((10 : Nat) : Int) = 10 from rfl] at HB
      have hr9 : u % 10 < 10 := by omega
      rw [dec_small hr9] at HB
      have hl := dec_len 19 (u / 10) (by omega) (by omega)
      have hz : (mkS (Lib.decDigits (u / 10))).size ≤ 19 := by rw [mkS_size]; exact hl
      have hz1 : (mkS [UInt8.ofNat (48 + u % 10)]).size = 1 := by rw [mkS_size]; rfl
      have hsum : ¬ (mkS (Lib.decDigits (u / 10))).size + (mkS [UInt8.ofNat (48 + u % 10)]).size > 9223372036854775807 := by omega
      have e1 : mkS (Lib.decDigits (u / 10)) ++ mkS [UInt8.ofNat (48 + u % 10)] = mkS (Lib.decDigits u) := by rw [mkS_append, ← dec_big h]
      generalize mkS (Lib.decDigits (u / 10)) = D1 at *
      generalize mkS [UInt8.ofNat (48 + u % 10)] = D2 at *
      clear ih hl hz hz1 hr9 h
      go_enter Tryd.func20, Tryd.ntmps20
      go_wp2_with fail
      refine HA.out.mono ?_
      rintro e w' ⟨rfl, rfl⟩
      go_wp2_with fail
      refine HB.out.mono ?_
      rintro e w' ⟨rfl, rfl⟩
      go_wp2_with fail
      go_ret
      exact ⟨rfl, rfl⟩
set_option maxRecDepth 100000 in
theorem Digits_any (n : Int) (hn : I64 n) (w : World) : Calls Tryd.prog 20 #[.int .i64 n] w fun e w' => e = .returned (.string (mkS (Lib.itoa n))) ∧ w = w' := by
  by_cases h0 : n < 0
  · by_cases hm : n = -9223372036854775808
    · subst hm
      have hE : Hid (Lib.itoa (-9223372036854775808) = [45, 57, 50, 50, 51, 51, 55, 50, 48, 51, 54, 56, 53, 52, 55, 55, 53, 56, 48, 56]) := Lib.hid (by decide +kernel)
      have hw : wrap64 9223372036854775808 = -9223372036854775808 := by decide +kernel
      go_enter Tryd.func20, Tryd.ntmps20
      go_wp2_with fail
      refine bodyPost_ret (v := .string (mkS (Lib.itoa (-9223372036854775808)))) ?_ rfl ⟨rfl, rfl⟩
      rw [hE.out]
      simp [results, Tryd.results20, go_sem]
      rfl
    · obtain ⟨u, hu⟩ : ∃ u : Nat, -n = (u : Int) := ⟨n.natAbs, by omega⟩
      obtain rfl : n = -(u : Int) := by omega
      have h1 := hn.1
      have hu1 : u ≤ 9223372036854775807 := by omega
      have hE : Hid (Lib.itoa (-(u : Int)) = 45 :: Lib.decDigits u) := Lib.hid (by unfold Lib.itoa; rw [if_pos h0]; congr 1; congr 1; omega)
      have HA := Lib.hid (Digits_nat u hu1 w)
      have hz : (mkS (Lib.decDigits u)).size ≤ 19 := by rw [mkS_size]; exact dec_len 19 u (by omega) (by omega)
      have hsum : ¬ 1 + (mkS (Lib.decDigits u)).size > 9223372036854775807 := by omega
      have e1 : ({ data := #[45] } : ByteArray) ++ mkS (Lib.decDigits u) = mkS (Lib.itoa (-(u : Int))) := by rw [hE.out]; exact mkS_append [45] _
      have hne : ((-(u : Int)) == IntKind.i64.wrap (- -(u : Int))) = false := by
        rw [show (- -(u : Int)) = (u : Int) by omega, IntKind.wrap_i64, beq_eq_false_iff_ne]
        omega
      have hw : IntKind.i64.wrap (- -(u : Int)) = (u : Int) := by
        rw [show (- -(u : Int)) = (u : Int) by omega, IntKind.wrap_i64]
        omega
      generalize Lib.itoa (-(u : Int)) = I at *
      clear hm hn h1 hz
      go_enter Tryd.func20, Tryd.ntmps20
      go_wp2_with fail
      refine HA.out.mono ?_
      rintro e w' ⟨rfl, rfl⟩
      go_wp2_with fail
      go_ret
      exact ⟨rfl, rfl⟩
  · obtain ⟨u, rfl⟩ : ∃ u : Nat, n = (u : Int) := ⟨n.toNat, by omega⟩
    have e : Lib.itoa (u : Int) = Lib.decDigits u := by unfold Lib.itoa; rw [if_neg h0, Int.toNat_natCast]
    rw [e]
    have := hn.2
    exact Digits_nat u (by omega) w
end Go.Proofs.YtdldochhondifaaDoor
