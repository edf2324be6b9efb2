/-
  Two numbers and a sign between (plain); contracts of core.Two and of the reference's Two.
  Conditions: the sign is one of OpAdd to OpLe.
-/
import Derived.Test.YtkiaffaieniebaaDoorBase
import Derived.Laws.Bits128
namespace Go.Proofs.YtkiaffaieniebaaDoor
open Go.RowKit

def oneB (b : Bool) : Int := if b then 1 else 0
/-- What two numbers and a sign come to; false: by 0. -/
def twoS (op a b : Int) : Int × Bool :=
  if op = 2 then (wrap64 (a + b), true) else if op = 3 then (wrap64 (a - b), true) else if op = 4 then (wrap64 (a * b), true)
  else if op = 5 then (if b = 0 then (0, false) else (wrap64 (a.tdiv b), true)) else if op = 6 then (if b = 0 then (0, false) else (a.tmod b, true))
  else if op = 7 then (bits .and .i64 a b, true) else if op = 8 then (bits .or .i64 a b, true) else if op = 9 then (bits .xor .i64 a b, true)
  else if op = 10 then (wrap64 (a * 2 ^ (bits .and .i64 b 63).toNat), true) else if op = 11 then (a / 2 ^ (bits .and .i64 b 63).toNat, true)
  else if op = 12 then (oneB (decide (a = b)), true) else if op = 13 then (oneB (decide (a ≠ b)), true) else if op = 14 then (oneB (decide (a < b)), true) else (oneB (decide (a ≤ b)), true)
def TwoPost (f : Int × Bool) (w : World) (e : Ending) (w' : World) : Prop := e = .returned (.tuple #[.int .i64 f.1, .bool f.2]) ∧ w = w'
theorem i64_and63 (n : Int) : 0 ≤ bits .and .i64 n 63 ∧ bits .and .i64 n 63 < 64 := by
  have h : bits .and .i64 n 63 = n % 64 := by
    show IntKind.i64.wrap ((BitVec.ofInt 64 n &&& BitVec.ofInt 64 63).toNat : Int) = _
    rw [BitVec.toNat_and, show (BitVec.ofInt 64 63).toNat = 2 ^ 6 - 1 by decide, Nat.and_two_pow_sub_one_eq_mod, BitVec.toNat_ofInt, IntKind.wrap_i64]
    omega
  rw [h]
  omega
end Go.Proofs.YtkiaffaieniebaaDoor
