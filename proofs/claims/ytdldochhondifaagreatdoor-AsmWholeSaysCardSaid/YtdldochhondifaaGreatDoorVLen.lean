/-
  Texts of the claim AsmWholeSays (Len): what each proves stands at its theorems.
  Conditions: as the theorems say.
-/
import Derived.Test.YtdldochhondifaaGreatDoorProg
import Derived.Lib.Strings
import Derived.Lib.Slices
import Derived.Lib.Small
import Derived.Lib.Walk
import Derived.Lib.BitFns

namespace Go.Proofs.YtdldochhondifaaGreatDoor
/-- The number of bits of a small number. -/
def bitsS (x : Nat) : Nat := if x = 0 then 0 else if x < 2 then 1 else if x < 4 then 2 else if x < 8 then 3 else if x < 16 then 4 else if x < 32 then 5 else if x < 64 then 6 else 7
theorem bitsS_le (x : Nat) : bitsS x ≤ 7 := by unfold bitsS; (repeat' split) <;> omega
theorem bitsS_one (x : Nat) : 1 < bitsS x ↔ 1 < x := by unfold bitsS; (repeat' split) <;> omega
theorem bits_small (x : Nat) (h : x < 128) : Lib.bitLen x = bitsS x := by
  have key : ∀ a : Fin 128, Lib.bitLen a.val = bitsS a.val := by decide +kernel
  exact key ⟨x, h⟩
set_option maxRecDepth 100000 in
set_option maxHeartbeats 4000000 in
theorem Len64_int (x : Int) (w : World) (h0 : 0 ≤ x) (hx : x < 128) :
    Calls Tryz.prog 179 #[.int .u64 x] w fun e w' => e = .returned (.int .i64 (Lib.bitLen x.toNat)) ∧ w' = w := by
  go_enter Tryz.func179, Tryz.ntmps179
  go_wp2
  all_goals (go_ret; refine ⟨congrArg Ending.returned (congrArg (Value.int IntKind.i64) ?_), rfl⟩)
  all_goals
    rw [Lib.len8_of (x % 256) (by omega) (by omega)]
    have e : (x % 256).toNat = x.toNat := by omega
    have l := Lib.bitLen_le8' (x % 256) (by omega) (by omega)
    rw [e] at l ⊢
    omega
theorem Len_int (x : Int) (w : World) (h0 : 0 ≤ x) (hx : x < 128) :
    Calls Tryz.prog 159 #[.int .u64 x] w fun e w' => e = .returned (.int .i64 (Lib.bitLen x.toNat)) ∧ w' = w := by
  go_enter Tryz.func159, Tryz.ntmps159
  go_wp2_with (go_at_call 179; refine (Len64_int x _ h0 hx).mono ?_; rintro e w' ⟨rfl, rfl⟩)
  go_ret
  exact ⟨rfl, rfl⟩
theorem Len_any (x : Int) (w : World) (h0 : 0 ≤ x) (hx : x < 128) :
    Calls Tryz.prog 159 #[.int .u64 x] w fun e w' => e = .returned (.int .i64 (bitsS x.toNat)) ∧ w = w' := by
  rw [← bits_small x.toNat (by omega)]
  exact (Len_int x w h0 hx).mono fun e w' h => ⟨h.1, h.2.symm⟩
end Go.Proofs.YtdldochhondifaaGreatDoor
