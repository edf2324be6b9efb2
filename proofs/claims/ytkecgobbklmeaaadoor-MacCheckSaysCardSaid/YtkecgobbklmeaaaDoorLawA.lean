/-
  The law MacCheckSays walks to true.
  Conditions: the slice reads as instructions; the table shapes lies as its initialiser lays it.
-/
import Derived.Test.YtkecgobbklmeaaaDoorMacG
namespace Go.Proofs.YtkecgobbklmeaaaDoor
open Go.RowKit

set_option maxHeartbeats 400000 in
theorem MacCheckSays_any (v : Value) (ms : List Mac) (w : World) (hv : MacsAt w w.heap.size v ms) (ht : Tab w) :
    Calls Tryd.prog 3 #[v] w fun e w' => e = .returned (.bool true) ∧ Below w.heap.size w w' := by
  have HV := Lib.hid hv
  have HT := Lib.hid ht
  clear hv ht
  go_enter Tryd.func3, Tryd.ntmps3
  go_wp2_with fail
  refine (Check_any _ ms _ HV.out HT.out).mono ?_
  rintro e w1 ⟨rfl, hb1⟩
  have HV1 := Lib.hid ((HV.out.below hb1 (Nat.le_refl _)).more hb1.size)
  have HB1 := Lib.hid hb1
  clear hb1
  go_wp2_with fail
  refine (MacCheck_any _ ms _ HV1.out).mono ?_
  rintro e w2 ⟨rfl, hb2⟩
  have HB2 := Lib.hid hb2
  clear hb2
  go_wp2_with fail
  go_ret
  exact ⟨ret_bool (by simp), HB1.out.trans (HB2.out.mono HB1.out.size)⟩
end Go.Proofs.YtkecgobbklmeaaaDoor
