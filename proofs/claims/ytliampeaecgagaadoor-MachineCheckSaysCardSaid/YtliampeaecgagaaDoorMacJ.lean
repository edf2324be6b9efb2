/-
  Contracts of mac.Reads and mac.Writes: the registers in rising order, or what is wrong with the instruction.
  Conditions: the table shapes lies as its initialiser lays it.
-/
import Derived.Test.YtliampeaecgagaaDoorMacI
namespace Go.Proofs.YtliampeaecgagaaDoor
open Go.RowKit

/-- The numbers below k of which P holds, rising. -/
def listP (P : Nat → Bool) (k : Nat) : List Int := ((List.range k).filter P).map fun (r : Nat) => (r : Int)
theorem listP_succ (P : Nat → Bool) (k : Nat) : listP P (k + 1) = if P k then listP P k ++ [(k : Int)] else listP P k := by
  unfold listP
  rw [List.range_succ, List.filter_append, List.map_append]
  by_cases h : P k <;> simp [h]
theorem listP_len (P : Nat → Bool) (k : Nat) : (listP P k).length ≤ k := by
  unfold listP
  rw [List.length_map]
  exact Nat.le_trans (List.length_filter_le _ _) (by simp)
theorem bitsTo_eq {s : Nat} {P : Nat → Bool} (h : HasBits s P) : bitsTo s 16 = listP P 16 := by
  unfold bitsTo listP
  rw [List.filter_congr fun r hr => h.2 r (List.mem_range.1 hr)]
/-- What a function that tells registers comes to. -/
def RegsPost (w : World) (c : Int) (xs : List Int) (e : Ending) (w' : World) : Prop :=
  ∃ v, e = .returned (.tuple #[v, .agg #[.int .i64 c, .int .i64 0]]) ∧ IntsAt w' w'.heap.size v xs ∧ Below w.heap.size w w'
/-- The registers that are told: none, if something is wrong. -/
def rdL (m : Mac) : List Int := if faultS m 5000 = 0 then listP (rdS m) 16 else []
def wrL (m : Mac) : List Int := if faultS m 5000 = 0 then listP (wrS m) 16 else []
theorem ints_nil (w : World) (B : Nat) : IntsAt w B (.slice none 0 0) [] := ⟨none, 0, rfl, by simp, by omega, fun h => by simp at h⟩
theorem OwnInts.set {w : World} {base : Nat} {v : Value} {xs : List Int} (h : OwnInts w base v xs) {b o : Nat} (hb : b < base) (u : Value) : OwnInts (w.setCell ⟨b, o, none⟩ u) base v xs :=
  ownsRow_setCell_below (a := ⟨b, o, none⟩) h hb u

end Go.Proofs.YtliampeaecgagaaDoor
