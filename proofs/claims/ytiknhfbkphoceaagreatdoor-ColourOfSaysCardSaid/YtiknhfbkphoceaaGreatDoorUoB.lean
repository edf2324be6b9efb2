/-
  Several texts in one (UoA UoB): what each proves stands at its theorems.
  Conditions: as the theorems say.
-/
import Derived.Test.YtiknhfbkphoceaaGreatDoorUnY
import Derived.Deep.QuietTactic
import Derived.BigQuiet
namespace Go.Proofs.YtiknhfbkphoceaaGreatDoor
open Go.RowKit

theorem manyU_take (bs : List BlkU) (j : Nat) : manyU (bs.take j) ≤ manyU bs := by
  have e : manyU bs = manyU (bs.take j) + manyU (bs.drop j) := by
    unfold manyU
    rw [← List.sum_append, ← List.map_append, List.take_append_drop]
  omega
/-- Is a unit larger than is looked at? -/
def heavyF (fs : List FunU) : Bool := (fs.any fun f => decide (24 < f.blocks.length) || decide (120 < manyU f.blocks)) || decide (10 < fs.length)
theorem heavy_hit {fs : List FunU} {k : Nat} {f : FunU} (hk : fs[k]? = some f) (h : 24 < f.blocks.length ∨ 120 < manyU f.blocks) : heavyF fs = true := by
  unfold heavyF
  rw [Bool.or_eq_true, List.any_eq_true]
  exact .inl ⟨f, List.mem_of_getElem? hk, by simpa using h⟩
theorem heavy_no {fs : List FunU} (h : ∀ (k : Nat) (f : FunU), fs[k]? = some f → ¬ (24 < f.blocks.length ∨ 120 < manyU f.blocks)) : heavyF fs = decide (10 < fs.length) := by
  unfold heavyF
  have : (fs.any fun f => decide (24 < f.blocks.length) || decide (120 < manyU f.blocks)) = false := by
    rw [List.any_eq_false]
    intro f hf
    obtain ⟨k, hk⟩ := List.getElem?_of_mem hf
    simpa using h k f hk
  rw [this, Bool.false_or]
theorem field_code (c a : Int) (w : World) : (Instr.field 28 (.agg #[.int .i64 c, .int .i64 a]) 0).run Tryz.prog w = .ok (.int .i64 c) w := by
  have u := run_underlying (w := w) Tryz.underlying28
  have u3 := Tryz.underlying3
  have a3 := Tryz.isAgg3
  have z3 := Tryz.sizeOf3
  unfold Instr.field
  simp only [Sem.run_bind, u, Result.andThen_ok]
  go_simp
  simp [asAgg]
/-- May a function be asked? -/
def goodF (gs : List Glob) (fs : List FunU) (k : Int) : Bool := decide ((clashF gs fs k).1 = 0) && !heavyF fs
theorem good_no_unit {gs : List Glob} {fs : List FunU} {k c a : Int} (h : unitF gs fs = (c, a)) (hc : c ≠ 0) : goodF gs fs k = false := by
  unfold goodF
  rw [clash_unit h hc]
  simp [hc]
theorem good_no_far {gs : List Glob} {fs : List FunU} {k a : Int} (h : unitF gs fs = (0, a)) (hc : ¬ (0 ≤ k ∧ k < fs.length)) : goodF gs fs k = false := by
  unfold goodF
  rw [clash_far h hc]
  simp
theorem good_no_heavy {gs : List Glob} {fs : List FunU} {k : Int} (h : heavyF fs = true) : goodF gs fs k = false := by
  unfold goodF
  rw [h]
  simp
theorem good_else {gs : List Glob} {fs : List FunU} {k : Int} (h : heavyF fs = false) : goodF gs fs k = decide ((clashF gs fs k).1 = 0) := by
  unfold goodF
  rw [h]
  simp
end Go.Proofs.YtiknhfbkphoceaaGreatDoor
namespace Go.Proofs.YtiknhfbkphoceaaGreatDoor
open Go.RowKit

def mainName : ByteArray := ⟨#[109, 97, 105, 110]⟩
def twinB : BlkU := ⟨[], [⟨21, 0, Opd.zero, Opd.zero, 0, []⟩, ⟨21, 1, Opd.zero, Opd.zero, 0, []⟩, ⟨2, 2, ⟨true, 0⟩, ⟨true, 1⟩, 0, []⟩], 1, ⟨true, 2⟩, []⟩
def twinFs : List FunU := [⟨mainName, 0, 3, [twinB]⟩]
theorem twin_unit : unitF [] twinFs = (0, 0) := by kernel_rfl
theorem twin_clash : clashF [] twinFs 0 = (0, 0) := by kernel_rfl
theorem sl_lit {α : Type} {size : Nat} {P : World → Nat → List Value → α → Prop} {w : World} {B g : Nat} {t : TypeId} {cs : Array Value} {xs : List α} (n : Nat) (hn : xs.length = n) (hb : Blk w g t cs) (hg : g < B) (hl : n ≤ 1000)
    (h : ∀ (k : Nat) (x : α), xs[k]? = some x → ∃ us, P w B us x ∧ ∀ (j : Nat) (u : Value), us[j]? = some u → cs[k * size + j]? = some u) : SlAt size P w B (.slice (some ⟨g, 0, none⟩) n n) xs := by
  subst hn
  refine ⟨some ⟨g, 0, none⟩, xs.length, rfl, Nat.le_refl _, by omega, fun _ => ⟨g, 0, rfl, hg, fun k x hx => ?_⟩⟩
  obtain ⟨us, hp, hc⟩ := h k x hx
  refine ⟨us, hp, fun j u hu => ?_⟩
  rw [Nat.zero_add, hb.cell]
  exact hc j u hu
theorem cells_nth {us : List Value} {cs : Array Value} {o : Nat} (h : (cs.toList.drop o).take us.length = us) (j : Nat) (u : Value) (hu : us[j]? = some u) : cs[o + j]? = some u := by
  have hj := (List.getElem?_eq_some_iff.1 hu).1
  rw [← h, List.getElem?_take, if_pos hj, List.getElem?_drop] at hu
  simpa using hu
theorem ints_none (w : World) (B : Nat) : IntsAt w B (.slice none 0 0) [] := ⟨none, 0, rfl, by simp, by omega, fun h => by simp at h⟩
theorem globs_none (w : World) (B : Nat) : GlobsAt w B (.slice none 0 0) [] := ⟨none, 0, rfl, by simp, by omega, fun h => by simp at h⟩
theorem i64_small {n : Int} (h : -1000 ≤ n ∧ n ≤ 1000) : I64 n := ⟨by omega, by omega⟩
end Go.Proofs.YtiknhfbkphoceaaGreatDoor
