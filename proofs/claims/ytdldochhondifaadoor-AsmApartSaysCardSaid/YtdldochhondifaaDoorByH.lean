/-
  Several texts in one (ByG ByH): what each proves stands at its theorems.
  Conditions: as the theorems say.
-/
import Derived.Test.YtdldochhondifaaDoorByF
import Derived.Test.YtdldochhondifaaDoorKitD
import Derived.Test.YtdldochhondifaaDoorKtP
import Derived.RegionTactic
import Derived.BigRegion
namespace Go.Proofs.YtdldochhondifaaDoor
open Go.RowKit

/-- A list's bytes. -/
def bytesS (ms : List Mac) : List Int := (ms.map codeS).flatten
theorem bytesS_snoc (ms : List Mac) (k : Nat) (m : Mac) (h : ms[k]? = some m) : bytesS (ms.take (k + 1)) = bytesS (ms.take k) ++ codeS m := by
  unfold bytesS
  rw [take_snoc' ms k m h, List.map_append, List.flatten_append]
  simp
/-- An instruction that may be written: it has an Op, registers in range, a number of Go's int. -/
structure Writes (m : Mac) : Prop where
  op : isOp m.op = true
  regs : RegsOk m
  n : I64 m.n
theorem codeS_len (m : Mac) (h : I64 m.n) : (codeS m).length ≤ 14 := by
  unfold codeS
  have h1 := pack_len (regsS m)
  have h2 := regs_len m
  have h3 := numS_len64 (foldS m.n) (foldS_lt m.n h)
  split <;> simp <;> omega
theorem bytesS_len (ms : List Mac) (h : ∀ m ∈ ms, I64 m.n) : (bytesS ms).length ≤ 14 * ms.length := by
  induction ms with
  | nil => simp [bytesS]
  | cons m ms ih =>
    have h1 := codeS_len m (h m (by simp))
    have h2 := ih fun x hx => h x (by simp [hx])
    unfold bytesS at *
    simp only [List.map_cons, List.flatten_cons, List.length_append, List.length_cons]
    omega

end Go.Proofs.YtdldochhondifaaDoor
namespace Go.Proofs.YtdldochhondifaaDoor
open Go.RowKit

/-- What a function that tells bytes comes to. -/
def BytesPost (w : World) (f : Int × Int) (xs : List Int) (e : Ending) (w' : World) : Prop :=
  ∃ v, e = .returned (.tuple #[v, .agg #[.int .i64 f.1, .int .i64 f.2]]) ∧ BAt w' w'.heap.size v xs ∧ Below w.heap.size w w'
/-- The bytes that are told. -/
def codeL (ms : List Mac) : List Int := if (checkS ms).1 = 0 then bytesS ms else []
theorem writes_of_check {ms : List Mac} (h : (checkS ms).1 = 0) (hi : ∀ m ∈ ms, m.ok) : ms.length ≤ 5000 ∧ ∀ m ∈ ms, Writes m := by
  obtain ⟨hl, hall, _⟩ := (code_ok_iff ms).1 h
  refine ⟨hl, fun m hm => ?_⟩
  obtain ⟨j, hj⟩ := List.mem_iff_getElem?.1 hm
  have ⟨h1, h2⟩ := regs_of_fault m _ (hall j m hj)
  exact ⟨h1, h2, (hi m hm).n⟩

end Go.Proofs.YtdldochhondifaaDoor
