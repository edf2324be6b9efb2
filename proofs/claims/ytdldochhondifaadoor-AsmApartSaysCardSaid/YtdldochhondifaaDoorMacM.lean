/-
  Several texts in one (MacK MacL MacM): what each proves stands at its theorems.
  Conditions: as the theorems say.
-/
import Derived.Test.YtdldochhondifaaDoorMacJ
namespace Go.Proofs.YtdldochhondifaaDoor
open Go.RowKit

theorem fld_ok (op : Int) : (fldS op).size ≤ 9223372036854775807 := by have := fld_size op; omega
end Go.Proofs.YtdldochhondifaaDoor
namespace Go.Proofs.YtdldochhondifaaDoor
open Go.RowKit
end Go.Proofs.YtdldochhondifaaDoor
namespace Go.Proofs.YtdldochhondifaaDoor
open Go.RowKit
end Go.Proofs.YtdldochhondifaaDoor
