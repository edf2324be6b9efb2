/-
  The reference's text of code.
  Conditions: the code's instructions are known ones; routines are named by a list, or by their numbers where it is empty.
-/
import Derived.Test.YtdldochhondifaaGreatDoorAsG
import Derived.Test.YtdldochhondifaaGreatDoorAsD
namespace Go.Proofs.YtdldochhondifaaGreatDoor
open Go.RowKit
attribute [local go_sem] Oper.semAt_some

theorem has_t {op : Int} (h : isOp op = true) : hasS (fldS op) 116 = (shK op == 2) := by
  obtain ⟨h1, h2⟩ := (isOp_iff op).1 h
  by_cases hA : 5 ≤ op ∧ op ≤ 18
  · rw [(sh_two op hA).2.2.2, fld_two op hA]; decide
  by_cases hB : 19 ≤ op ∧ op ≤ 32
  · rw [(sh_num op hB).2.2.2, fld_num op hB]; decide
  by_cases hC : 40 ≤ op ∧ op ≤ 43
  · rw [(sh_jmp op hC).2.2.2, fld_jmp op hC]; decide
  obtain rfl | rfl | rfl | rfl | rfl | rfl | rfl | rfl | rfl | rfl | rfl | rfl | rfl | rfl | rfl :
    op = 1 ∨ op = 2 ∨ op = 3 ∨ op = 4 ∨ op = 33 ∨ op = 34 ∨ op = 35 ∨ op = 36 ∨ op = 37 ∨ op = 38 ∨ op = 39 ∨ op = 44 ∨ op = 45 ∨ op = 46 ∨ op = 47 := by omega
  all_goals decide
end Go.Proofs.YtdldochhondifaaGreatDoor
