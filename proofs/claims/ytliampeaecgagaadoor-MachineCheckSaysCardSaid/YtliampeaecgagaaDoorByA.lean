/-
  Contracts of bytes.Fold and the reference's Folded: a number that is small if the given one is near 0.
  Conditions: it is a number of Go's int.
-/
import Derived.Test.YtliampeaecgagaaDoorMacM
namespace Go.Proofs.YtliampeaecgagaaDoor
open Go.RowKit

/-- The folded number. -/
def foldS (n : Int) : Nat := if n < 0 then 2 * (-(n + 1)).toNat + 1 else 2 * n.toNat
theorem foldS_lt (n : Int) (h : I64 n) : foldS n < 18446744073709551616 := by
  unfold I64 at h
  unfold foldS
  split <;> omega
theorem xor_ones (a : Nat) (h : a < 18446744073709551616) : a ^^^ 18446744073709551615 = 18446744073709551615 - a := by
  apply Nat.eq_of_testBit_eq
  intro i
  rw [Nat.testBit_xor, show (18446744073709551615 : Nat) - a = 2 ^ 64 - (a + 1) by omega, Nat.testBit_two_pow_sub_succ (by omega), show (18446744073709551615 : Nat) = 2 ^ 64 - 1 by decide, Nat.testBit_two_pow_sub_one]
  by_cases hi : i < 64
  · simp [hi]
  · have : a.testBit i = false := Nat.testBit_lt_two_pow (Nat.lt_of_lt_of_le (show a < 2 ^ 64 by omega) (Nat.pow_le_pow_right (by decide) (by omega)))
    simp [hi, this]
theorem fold_bits (n : Int) (h : I64 n) : bits .xor .u64 (IntKind.u64.wrap (IntKind.u64.wrap n * 2)) (IntKind.u64.wrap (n / 9223372036854775808)) = (foldS n : Int) := by
  unfold I64 at h
  simp only [IntKind.wrap_u64]
  unfold foldS
  by_cases hn : n < 0
  · rw [if_pos hn]
    have h1 : n / 9223372036854775808 % 18446744073709551616 = ((18446744073709551615 : Nat) : Int) := by omega
    have h2 : n % 18446744073709551616 * 2 % 18446744073709551616 = (((n % 18446744073709551616 * 2 % 18446744073709551616).toNat : Nat) : Int) := by omega
    rw [h1, h2, bits_xor_u64_nat _ _ (by omega) (by omega), xor_ones _ (by omega)]
    omega
  · rw [if_neg hn]
    have h1 : n / 9223372036854775808 % 18446744073709551616 = ((0 : Nat) : Int) := by omega
    have h2 : n % 18446744073709551616 * 2 % 18446744073709551616 = ((2 * n.toNat : Nat) : Int) := by omega
    rw [h1, h2, bits_xor_u64_nat _ _ (by omega) (by omega)]
    simp
set_option maxHeartbeats 1000000 in
theorem Fold_any (n : Int) (w : World) (h : I64 n) : Calls Tryd.prog 94 #[.int .i64 n] w fun e w' => e = .returned (.int .u64 (foldS n)) ∧ w' = w := by
  have H := Lib.hid (fold_bits n h)
  clear h
  go_enter Tryd.func94, Tryd.ntmps94
  go_wp2
  go_ret
  exact ⟨ret_int H.out, rfl⟩
set_option maxHeartbeats 1000000 in
theorem Folded_any (n : Int) (w : World) (h : I64 n) : Calls Tryd.prog 84 #[.int .i64 n] w fun e w' => e = .returned (.int .u64 (foldS n)) ∧ w' = w := by
  have H := Lib.hid h
  clear h
  by_cases hn : n < 0
  · go_enter Tryd.func84, Tryd.ntmps84
    go_wp2
    go_ret
    refine ⟨ret_int ?_, rfl⟩
    have := H.out
    unfold I64 at this
    unfold foldS
    rw [if_pos hn]
    simp only [IntKind.wrap_u64, wrap64]
    omega
  · go_enter Tryd.func84, Tryd.ntmps84
    go_wp2
    go_ret
    refine ⟨ret_int ?_, rfl⟩
    have := H.out
    unfold I64 at this
    unfold foldS
    rw [if_neg (by omega)]
    simp only [IntKind.wrap_u64]
    omega
end Go.Proofs.YtliampeaecgagaaDoor
