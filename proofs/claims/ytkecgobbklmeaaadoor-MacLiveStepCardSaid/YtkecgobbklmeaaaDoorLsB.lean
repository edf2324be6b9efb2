/-
  The law MacLiveStep walks to true.
  Conditions: the slice reads as numbers of Go's int, the register is one; the table shapes lies as its initialiser lays it.
-/
import Derived.Test.YtkecgobbklmeaaaDoorLsA
import Derived.Test.YtkecgobbklmeaaaDoorKtC
namespace Go.Proofs.YtkecgobbklmeaaaDoor
open Go.RowKit

theorem fault_more {m : Mac} {many many' : Int} (h : faultS m many = 0) (hle : many ≤ many') : faultS m many' = 0 := by
  obtain ⟨ho, hr, h1, h2, h3, hn⟩ := (fault_zero m many).1 h
  refine (fault_zero m many').2 ⟨ho, hr, h1, h2, h3, ?_⟩
  unfold numberS at *
  repeat' split at hn
  all_goals first | (cases hn; done) | skip
  all_goals (repeat' split) <;> first | rfl | omega
/-- Has one of the first k instructions read the register? -/
def usedTo (ms : List Mac) (r k : Nat) : Bool := (ms.take k).any fun m => rdS m r
theorem usedTo_succ (ms : List Mac) (r k : Nat) (m : Mac) (h : ms[k]? = some m) : usedTo ms r (k + 1) = (usedTo ms r k || rdS m r) := by
  unfold usedTo
  rw [take_snoc' ms k m h, List.any_append]
  simp
/-- Is the register live at one of the first q successors? -/
noncomputable def behindTo (ms : List Mac) (r i : Nat) (m : Mac) (q : Nat) : Bool := (List.range q).any fun k => goB m i k && liveB ms r k
theorem behindTo_succ (ms : List Mac) (r i : Nat) (m : Mac) (q : Nat) : behindTo ms r i m (q + 1) = (behindTo ms r i m q || (goB m i q && liveB ms r q)) := by
  unfold behindTo
  rw [List.range_succ, List.any_append]
  simp
theorem live_behind (ms : List Mac) (r i : Nat) (m : Mac) (h : ms[i]? = some m) : liveB ms r i = (rdS m r || (behindTo ms r i m ms.length && !wrS m r)) := by
  rw [live_step ms r i (List.getElem?_eq_some_iff.1 h).1]
  unfold stepB behindTo
  rw [h]
  simp only
  rw [Bool.and_comm]
end Go.Proofs.YtkecgobbklmeaaaDoor
