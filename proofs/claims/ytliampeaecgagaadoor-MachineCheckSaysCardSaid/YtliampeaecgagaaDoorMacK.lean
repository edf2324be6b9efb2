/-
  Contracts of the reference's macReads and macWrites: one register of one instruction.
  Conditions: none.
-/
import Derived.Test.YtliampeaecgagaaDoorMacJ
namespace Go.Proofs.YtliampeaecgagaaDoor
open Go.RowKit

theorem fld_ok (op : Int) : (fldS op).size ≤ 9223372036854775807 := by have := fld_size op; omega
end Go.Proofs.YtliampeaecgagaaDoor
