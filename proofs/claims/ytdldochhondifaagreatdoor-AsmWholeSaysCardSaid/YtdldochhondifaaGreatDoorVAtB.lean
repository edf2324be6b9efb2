/-
  Texts of the claim AsmWholeSays (AtB): what each proves stands at its theorems.
  Conditions: as the theorems say.
-/
import Derived.Test.YtdldochhondifaaGreatDoorVArO
namespace Go.Proofs.YtdldochhondifaaGreatDoor
open Go.RowKit
attribute [local go_sem] Oper.semAt_some

section
variable {base bx lb : Nat} {nm : List UInt8} {st : PSt} {cv gv kv : Value}
theorem line_any (nb : Bool) (s : List UInt8) (hs : s.length ≤ 900000) (hok : LineOk s) (w : World) (hS : Std w) (hM : Sec w base bx nm st cv lb gv kv) (hbase : base ≤ w.heap.size) (hl : st.labs.length ≤ 1000000) (hl2 : st.code.length ≤ 1000000) :
    Calls Tryz.prog 25 #[.pointer (some ⟨bx, 0, none⟩), .string (mkS s), .bool nb] w (LinePost w base bx nm cv lb gv kv (lineP nb st s)) := by
  by_cases hc : s.getLast? = some 58
  · exact line_label nb s (by omega) hc w hS hM hbase hl hl2
  · exact line_ins nb s hs hok hc w hS hM hbase hl2
end
end Go.Proofs.YtdldochhondifaaGreatDoor
