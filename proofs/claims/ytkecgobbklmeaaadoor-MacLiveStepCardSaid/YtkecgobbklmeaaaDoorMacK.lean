/-
  Contracts of the reference's macReads and macWrites: one register of one instruction.
  Conditions: none.
-/
import Derived.Test.YtkecgobbklmeaaaDoorMacJ
namespace Go.Proofs.YtkecgobbklmeaaaDoor
open Go.RowKit

theorem fld_ok (op : Int) : (fldS op).size ≤ 9223372036854775807 := by have := fld_size op; omega
set_option maxRecDepth 100000 in
set_option maxHeartbeats 2000000 in
theorem macReads_any (op dst a b n : Int) (k : Nat) (w : World) :
    Calls Tryd.prog 68 #[.agg #[.int .i64 op, .int .i64 dst, .int .i64 a, .int .i64 b, .int .i64 n], .int .i64 k] w fun e w' => e = .returned (.bool (rdS ⟨op, dst, a, b, n⟩ k)) ∧ Below w.heap.size w w' := by
  by_cases h44 : op = 44
  · have He : Hid (rdS ⟨op, dst, a, b, n⟩ k = decide (k < 6)) := Lib.hid (by unfold rdS; rw [if_pos h44])
    subst h44
    go_enter Tryd.func68, Tryd.ntmps68
    go_wp2_with fail
    go_ret
    exact ⟨ret_bool (by rw [He.out]; exact decide_eq_decide.2 (by omega)), (Below.refl _ _).alloc (Nat.le_refl _) _⟩
  by_cases h45 : op = 45
  · have He : Hid (rdS ⟨op, dst, a, b, n⟩ k = decide (k = 0 ∨ (6 ≤ k ∧ k < 14))) := Lib.hid (by unfold rdS; rw [if_neg h44, if_pos h45])
    subst h45
    clear h44
    rcases (by omega : k = 0 ∨ (0 < k ∧ k < 6) ∨ (6 ≤ k ∧ k < 14) ∨ 14 ≤ k) with h | ⟨h, h'⟩ | ⟨h, h'⟩ | h
    · subst h
      go_enter Tryd.func68, Tryd.ntmps68
      go_wp2_with fail
      go_ret
      exact ⟨ret_bool (by rw [He.out]; rfl), (Below.refl _ _).alloc (Nat.le_refl _) _⟩
    all_goals
      have h0 : ((k : Int) == 0) = false := by simp; omega
      go_enter Tryd.func68, Tryd.ntmps68
      go_wp2_with fail
      go_ret
      exact ⟨ret_bool (by rw [He.out]; symm; first | (apply decide_eq_true; omega) | (apply decide_eq_false; omega) | (apply Bool.eq_iff_iff.2; first | (simp only [decide_eq_true_eq]; omega) | (simp only [Bool.or_eq_true, decide_eq_true_eq]; omega) | (simp only [Bool.and_eq_true, decide_eq_true_eq]; omega) | (simp only [Bool.or_eq_true, Bool.and_eq_true, decide_eq_true_eq]; omega))), (Below.refl _ _).alloc (Nat.le_refl _) _⟩
  have He : Hid (rdS ⟨op, dst, a, b, n⟩ k = ((shA op && decide (a = k)) || (shB op && decide (b = k)))) := Lib.hid (by unfold rdS; rw [if_neg h44, if_neg h45])
  have b1 : (op == 44) = false := by simp; omega
  have b2 : (op == 45) = false := by simp; omega
  clear h44 h45
  have HZ := Lib.hid (fld_ok op)
  rcases Bool.eq_false_or_eq_true (shA op) with hA | hA <;> rcases Bool.eq_false_or_eq_true (shB op) with hB | hB <;> by_cases ha : a = k <;> by_cases hb : b = k
  all_goals
    have HA := Lib.hid hA
    have HB := Lib.hid hB
    have xA : hasS (fldS op) 97 = shA op := rfl
    have xB : hasS (fldS op) 98 = shB op := rfl
    rw [hA] at xA
    rw [hB] at xB
    have Ha : Hid (decide (a = (k : Int)) = decide (a = (k : Int))) := Lib.hid rfl
    have ea : (a == (k : Int)) = decide (a = (k : Int)) := by first | rfl | (by_cases h : a = (k : Int) <;> simp [h])
    have eb : (b == (k : Int)) = decide (b = (k : Int)) := by first | rfl | (by_cases h : b = (k : Int) <;> simp [h])
    first | rw [decide_eq_true ha] at ea | rw [decide_eq_false ha] at ea
    first | rw [decide_eq_true hb] at eb | rw [decide_eq_false hb] at eb
    have Hab := Lib.hid (And.intro ha hb)
    clear hA hB ha hb
    go_enter Tryd.func68, Tryd.ntmps68
    go_wp2_with fail
    refine (Fields_any _ _).mono ?_
    rintro e w1 ⟨rfl, hb1⟩
    have hz : w.heap.size < w1.heap.size := by have := hb1.size; simp at this; omega
    have c2 : w1.cell? ⟨w.heap.size, 2, none⟩ = some (.int .i64 a) := by rw [bcell hb1 (by simp)]; simp
    have c3 : w1.cell? ⟨w.heap.size, 3, none⟩ = some (.int .i64 b) := by rw [bcell hb1 (by simp)]; simp
    have HB1 : Hid (Below w.heap.size w w1) := Lib.hid (((Below.refl _ _).alloc (Nat.le_refl _) _).trans (hb1.mono (by simp)))
    clear hb1
    go_wp2_with (go_at_call 34; refine (Has_any (fldS op) _ _ HZ.out).mono ?_; rintro e w' ⟨rfl, rfl⟩)
    go_ret
    exact ⟨ret_bool (by rw [He.out, HA.out, HB.out]; simp [Hab.out.1, Hab.out.2]), HB1.out⟩

set_option maxRecDepth 100000 in
set_option maxHeartbeats 2000000 in
theorem macWrites_any (op dst a b n : Int) (k : Nat) (w : World) :
    Calls Tryd.prog 66 #[.agg #[.int .i64 op, .int .i64 dst, .int .i64 a, .int .i64 b, .int .i64 n], .int .i64 k] w fun e w' => e = .returned (.bool (wrS ⟨op, dst, a, b, n⟩ k)) ∧ Below w.heap.size w w' := by
  by_cases h44 : op = 44
  · have He : Hid (wrS ⟨op, dst, a, b, n⟩ k = decide (k < 6 ∨ 14 ≤ k)) := Lib.hid (by unfold wrS; rw [if_pos h44])
    subst h44
    rcases (by omega : k < 6 ∨ (6 ≤ k ∧ k < 14) ∨ 14 ≤ k) with h | ⟨h, h'⟩ | h
    all_goals
      go_enter Tryd.func66, Tryd.ntmps66
      go_wp2_with fail
      go_ret
      exact ⟨ret_bool (by rw [He.out]; symm; first | (apply decide_eq_true; omega) | (apply decide_eq_false; omega) | (apply Bool.eq_iff_iff.2; first | (simp only [decide_eq_true_eq]; omega) | (simp only [Bool.or_eq_true, decide_eq_true_eq]; omega) | (simp only [Bool.and_eq_true, decide_eq_true_eq]; omega) | (simp only [Bool.or_eq_true, Bool.and_eq_true, decide_eq_true_eq]; omega))), (Below.refl _ _).alloc (Nat.le_refl _) _⟩
  have He : Hid (wrS ⟨op, dst, a, b, n⟩ k = (shD op && decide (dst = k))) := Lib.hid (by unfold wrS; rw [if_neg h44])
  have b1 : (op == 44) = false := by simp; omega
  clear h44
  have HZ := Lib.hid (fld_ok op)
  rcases Bool.eq_false_or_eq_true (shD op) with hA | hA <;> by_cases ha : dst = k
  all_goals
    have HA := Lib.hid hA
    have xA : hasS (fldS op) 100 = shD op := rfl
    rw [hA] at xA
    have ea : (dst == (k : Int)) = decide (dst = (k : Int)) := by first | rfl | (by_cases h : dst = (k : Int) <;> simp [h])
    first | rw [decide_eq_true ha] at ea | rw [decide_eq_false ha] at ea
    have Hab := Lib.hid ha
    clear hA ha
    go_enter Tryd.func66, Tryd.ntmps66
    go_wp2_with fail
    refine (Fields_any _ _).mono ?_
    rintro e w1 ⟨rfl, hb1⟩
    have hz : w.heap.size < w1.heap.size := by have := hb1.size; simp at this; omega
    have c1 : w1.cell? ⟨w.heap.size, 1, none⟩ = some (.int .i64 dst) := by rw [bcell hb1 (by simp)]; simp
    have HB1 : Hid (Below w.heap.size w w1) := Lib.hid (((Below.refl _ _).alloc (Nat.le_refl _) _).trans (hb1.mono (by simp)))
    clear hb1
    go_wp2_with (go_at_call 34; refine (Has_any (fldS op) _ _ HZ.out).mono ?_; rintro e w' ⟨rfl, rfl⟩)
    go_ret
    exact ⟨ret_bool (by rw [He.out, HA.out]; simp [Hab.out]), HB1.out⟩
end Go.Proofs.YtkecgobbklmeaaaDoor
