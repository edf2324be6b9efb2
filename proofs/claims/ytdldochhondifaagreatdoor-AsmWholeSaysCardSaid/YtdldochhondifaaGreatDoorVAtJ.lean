/-
  Texts of the claim AsmWholeSays (AtJ): what each proves stands at its theorems.
  Conditions: as the theorems say.
-/
import Derived.Test.YtdldochhondifaaGreatDoorVAtH
import Derived.Test.YtdldochhondifaaGreatDoorVAtB
import Derived.Test.YtdldochhondifaaGreatDoorVRdK
namespace Go.Proofs.YtdldochhondifaaGreatDoor
open Go.RowKit
attribute [local go_sem] Oper.semAt_some

end Go.Proofs.YtdldochhondifaaGreatDoor
namespace Go.Proofs.YtdldochhondifaaGreatDoor
open Go.RowKit
attribute [local go_sem] Oper.semAt_some

theorem eqFaultR (c a d b : Int) (w : World) : (Op.equalIn 10000 24 (.agg #[.int .i64 c, .int .i64 a]) (.agg #[.int .i64 d, .int .i64 b])).run Tryz.prog w = .ok (c == d && a == b) w := by
  have hS : Tryz.prog.underlying 24 = some (.struct (Tryz.prog.fieldsOf 24)) := by kernel_rfl
  rw [show (10000 : Nat) = 9999 + 1 from rfl, run_equalIn_agg w 9999 24 _ _ hS (by kernel_rfl)]
  simp only [Program.fieldsOf, Tryz.underlying24]
  have u3 := Tryz.underlying3
  have a3 := Tryz.isAgg3
  have z3 := Tryz.sizeOf3
  go_simp
  by_cases h0 : c = d <;> by_cases h1 : a = b <;> simp [h0, h1]
end Go.Proofs.YtdldochhondifaaGreatDoor
