/-
  Several texts in one (RnA RnB): what each proves stands at its theorems.
  Conditions: as the theorems say.
-/
import Derived.Test.YtkiaffaieniebaaDoorBase
import Derived.Laws.Bits128
namespace Go.Proofs.YtkiaffaieniebaaDoor
open Go.RowKit

def oneB (b : Bool) : Int := if b then 1 else 0
/-- What two numbers and a sign come to; false: by 0. -/
def twoS (op a b : Int) : Int × Bool :=
  if op = 2 then (wrap64 (a + b), true) else if op = 3 then (wrap64 (a - b), true) else if op = 4 then (wrap64 (a * b), true)
  else if op = 5 then (if b = 0 then (0, false) else (wrap64 (a.tdiv b), true)) else if op = 6 then (if b = 0 then (0, false) else (a.tmod b, true))
  else if op = 7 then (bits .and .i64 a b, true) else if op = 8 then (bits .or .i64 a b, true) else if op = 9 then (bits .xor .i64 a b, true)
  else if op = 10 then (wrap64 (a * 2 ^ (bits .and .i64 b 63).toNat), true) else if op = 11 then (a / 2 ^ (bits .and .i64 b 63).toNat, true)
  else if op = 12 then (oneB (decide (a = b)), true) else if op = 13 then (oneB (decide (a ≠ b)), true) else if op = 14 then (oneB (decide (a < b)), true) else (oneB (decide (a ≤ b)), true)
def TwoPost (f : Int × Bool) (w : World) (e : Ending) (w' : World) : Prop := e = .returned (.tuple #[.int .i64 f.1, .bool f.2]) ∧ w = w'
theorem i64_and63 (n : Int) : 0 ≤ bits .and .i64 n 63 ∧ bits .and .i64 n 63 < 64 := by
  have h : bits .and .i64 n 63 = n % 64 := by
    show IntKind.i64.wrap ((BitVec.ofInt 64 n &&& BitVec.ofInt 64 63).toNat : Int) = _
    rw [BitVec.toNat_and, show (BitVec.ofInt 64 63).toNat = 2 ^ 6 - 1 by decide, Nat.and_two_pow_sub_one_eq_mod, BitVec.toNat_ofInt, IntKind.wrap_i64]
    omega
  rw [h]
  omega
end Go.Proofs.YtkiaffaieniebaaDoor
namespace Go.Proofs.YtkiaffaieniebaaDoor
open Go.RowKit

theorem yes_any (b : Bool) (w : World) : Calls Tryd.prog 102 #[.bool b] w fun e w' => e = .returned (.int .i64 (oneB b)) ∧ w = w' := by
  cases b
  all_goals
    go_enter Tryd.func102, Tryd.ntmps102
    go_wp2_with fail
    go_ret
    exact ⟨rfl, rfl⟩
set_option maxHeartbeats 2000000 in
theorem Two_any (op a b : Int) (w : World) (h1 : 2 ≤ op) (h2 : op ≤ 15) : Calls Tryd.prog 92 #[.int .i64 op, .int .i64 a, .int .i64 b] w (TwoPost (twoS op a b) w) := by
  have h63 := i64_and63 b
  obtain ⟨f, hf⟩ : ∃ f, twoS op a b = f := ⟨_, rfl⟩
  rw [hf]
  have HF := Lib.hid hf
  clear hf
  obtain rfl | rfl | rfl | rfl | rfl | rfl | rfl | rfl | rfl | rfl | rfl | rfl | rfl | rfl : op = 2 ∨ op = 3 ∨ op = 4 ∨ op = 5 ∨ op = 6 ∨ op = 7 ∨ op = 8 ∨ op = 9 ∨ op = 10 ∨ op = 11 ∨ op = 12 ∨ op = 13 ∨ op = 14 ∨ op = 15 := by omega
  all_goals
    clear h1 h2
    by_cases hb : b = 0
    all_goals
      have Hb := Lib.hid hb
      first
        | (have hb0 : (b == 0) = false := by simp [hb])
        | (have hb0 : (b == 0) = true := by simp [hb]
           clear hb)
      obtain ⟨c, hc⟩ : ∃ c, bits .and .i64 b 63 = c := ⟨_, rfl⟩
      have Hc := Lib.hid hc
      rw [hc] at h63
      obtain ⟨hc0, hc1⟩ := h63
      go_enter Tryd.func92, Tryd.ntmps92
      go_wp2_with (go_at_call 102; refine (yes_any _ _).mono ?_; rintro e w' ⟨rfl, rfl⟩)

      go_ret2
      (refine ⟨?_, rfl⟩)
      (rw [← HF.out])
      first
        | (simp [twoS, Hb.out, Hc.out, oneB]; done)
        | (simp only [twoS]; simp [Hc.out])
end Go.Proofs.YtkiaffaieniebaaDoor
