/-
  Contracts of bytes.Unfold and of the Reader's Number.
  Conditions: the bytes are bytes; the number lies below 2^64.
-/
import Derived.Test.YtliampeaecgagaaDoorRdA
import Derived.Test.YtliampeaecgagaaDoorRdP
import Derived.Test.YtliampeaecgagaaDoorLen
namespace Go.Proofs.YtliampeaecgagaaDoor
open Go.RowKit

theorem xor_i64_ones (x : Nat) (h : x < 9223372036854775808) : bits .xor .i64 (x : Int) (-1) = -(x : Int) - 1 := by
  show IntKind.i64.wrap ((BitVec.ofInt 64 (x : Int) ^^^ BitVec.ofInt 64 (-1)).toNat : Int) = _
  rw [BitVec.toNat_xor, ofInt_u64 x (by omega), show (BitVec.ofInt 64 (-1)).toNat = 18446744073709551615 from by decide, xor_ones x (by omega), IntKind.wrap_i64]
  omega
theorem xor_i64_zero (x : Nat) (h : x < 9223372036854775808) : bits .xor .i64 (x : Int) 0 = (x : Int) := by
  show IntKind.i64.wrap ((BitVec.ofInt 64 (x : Int) ^^^ BitVec.ofInt 64 0).toNat : Int) = _
  rw [BitVec.toNat_xor, ofInt_u64 x (by omega), show (BitVec.ofInt 64 0).toNat = 0 from by decide, Nat.xor_zero, IntKind.wrap_i64]
  omega
theorem unfold_bits (n : Nat) (h : n < 18446744073709551616) : bits .xor .i64 ((n : Int) / 2) (wrap64 (-wrap64 (bits .and .u64 (n : Int) 1))) = unfoldS n := by
  rw [show (1 : Int) = ((1 : Nat) : Int) from rfl, u64_and_nat n 1 h (by omega), Nat.and_one_is_mod, show (n : Int) / 2 = ((n / 2 : Nat) : Int) by omega]
  unfold unfoldS
  rcases (by omega : n % 2 = 0 ∨ n % 2 = 1) with h0 | h1
  · rw [h0, if_neg (by omega), show wrap64 (-wrap64 ((0 : Nat) : Int)) = 0 by unfold wrap64; omega, xor_i64_zero _ (by omega)]
  · rw [h1, if_pos rfl, show wrap64 (-wrap64 ((1 : Nat) : Int)) = -1 by unfold wrap64; omega, xor_i64_ones _ (by omega)]
set_option maxRecDepth 100000 in
set_option maxHeartbeats 1000000 in
theorem Unfold_any (n : Nat) (w : World) (h : n < 18446744073709551616) : Calls Tryd.prog 65 #[.int .u64 n] w fun e w' => e = .returned (.int .i64 (unfoldS n)) ∧ w = w' := by
  have H := Lib.hid (unfold_bits n h)
  go_enter Tryd.func65, Tryd.ntmps65
  go_wp2_with fail
  go_ret
  exact ⟨ret_int H.out, rfl⟩
end Go.Proofs.YtliampeaecgagaaDoor
