/-
  Contracts of machine.goes and of the reference's jumps.
  Conditions: the Op is one of MacJump to MacIfLe.
-/
import Derived.Test.YtkiaffaieniebaaDoorRuP
namespace Go.Proofs.YtkiaffaieniebaaDoor
open Go.RowKit

theorem goes_any (op a b : Int) (w : World) (h1 : 37 ≤ op) (h2 : op ≤ 43) : Calls Tryd.prog 74 #[.int .i64 op, .int .i64 a, .int .i64 b] w fun e w' => e = .returned (.bool (goesS op a b)) ∧ w = w' := by
  obtain rfl | rfl | rfl | rfl | rfl | rfl | rfl : op = 37 ∨ op = 38 ∨ op = 39 ∨ op = 40 ∨ op = 41 ∨ op = 42 ∨ op = 43 := by omega
  all_goals
    clear h1 h2
    go_enter Tryd.func74, Tryd.ntmps74
    go_wp2_with fail
    go_ret
    refine ⟨ret_bool ?_, rfl⟩
    simp [goesS, bne]
    try (cases h : (a == 0) <;> simp_all; done)
    try (cases h : (a == b) <;> simp_all; done)
theorem jumps_any (op a b : Int) (w : World) (h1 : 37 ≤ op) (h2 : op ≤ 43) : Calls Tryd.prog 56 #[.int .i64 op, .int .i64 a, .int .i64 b] w fun e w' => e = .returned (.bool (goesS op a b)) ∧ w = w' := by
  obtain rfl | rfl | rfl | rfl | rfl | rfl | rfl : op = 37 ∨ op = 38 ∨ op = 39 ∨ op = 40 ∨ op = 41 ∨ op = 42 ∨ op = 43 := by omega
  all_goals
    clear h1 h2
    go_enter Tryd.func56, Tryd.ntmps56
    go_wp2_with fail
    go_ret
    refine ⟨ret_bool ?_, rfl⟩
    simp [goesS, bne]
    try (cases h : (a == 0) <;> simp_all; done)
    try (cases h : (a == b) <;> simp_all; done)
end Go.Proofs.YtkiaffaieniebaaDoor
