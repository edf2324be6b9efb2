/-
  Slices of instructions that a call makes.
  Conditions: none.
-/
import Derived.Test.YtliampeaecgagaaDoorKitC
import Derived.Test.YtliampeaecgagaaDoorByK
namespace Go.Proofs.YtliampeaecgagaaDoor
open Go.RowKit

theorem infoMac : (Tryd.prog.info? 36).map (fun i => (i.zero, i.size, i.bytes)) = some (some (.agg #[.int .i64 0, .int .i64 0, .int .i64 0, .int .i64 0, .int .i64 0]), 5, 40) := by kernel_rfl
/-- All cells of a list. -/
def cellsS (ms : List Mac) : List Value := (ms.map Mac.cells).flatten
theorem cellsS_len (ms : List Mac) : (cellsS ms).length = ms.length * 5 := by
  induction ms with
  | nil => rfl
  | cons m ms ih =>
    unfold cellsS at *
    simp only [List.map_cons, List.flatten_cons, List.length_append, List.length_cons, ih]
    show 5 + _ = _
    omega
theorem cellsS_snoc (ms : List Mac) (m : Mac) : cellsS (ms ++ [m]) = cellsS ms ++ m.cells := by
  unfold cellsS
  rw [List.map_append, List.flatten_append]
  simp
theorem cellsS_at : ∀ (ms : List Mac) (k : Nat) (m : Mac), ms[k]? = some m → ∀ j, j < 5 → (cellsS ms)[k * 5 + j]? = m.cells[j]?
  | [], k, m, h, _, _ => by simp at h
  | m0 :: ms, 0, m, h, j, hj => by
    simp only [List.getElem?_cons_zero, Option.some.injEq] at h
    subst h
    unfold cellsS
    rw [List.map_cons, List.flatten_cons, Nat.zero_mul, Nat.zero_add, List.getElem?_append_left (by simpa [Mac.cells] using hj)]
  | m0 :: ms, k + 1, m, h, j, hj => by
    have ih := cellsS_at ms k m (by simpa using h) j hj
    unfold cellsS at *
    rw [List.map_cons, List.flatten_cons, List.getElem?_append_right (by simp [Mac.cells]; omega)]
    rw [← ih]
    congr 1
    simp [Mac.cells]
    omega
/-- The cells from an offset on are a list's. -/
theorem macs_of_cells {w : World} {b off c : Nat} {ms : List Mac} {cs : Array Value} {t : TypeId} (hb : Blk w b t cs) (hc : ∀ j u, (cellsS ms)[j]? = some u → cs[off + j]? = some u) (hl : ms.length ≤ c) (h63 : ms.length ≤ 9223372036854775807) :
    MacsAt w w.heap.size (.slice (some ⟨b, off, none⟩) ms.length c) ms := by
  refine ⟨_, c, rfl, hl, h63, fun _ => ⟨b, off, rfl, hb.lt, fun k m hk => ?_⟩⟩
  have hat := fun j (hj : j < 5) => cellsS_at ms k m hk j hj
  have cell : ∀ j u, j < 5 → m.cells[j]? = some u → w.cell? ⟨b, off + k * 5 + j, none⟩ = some u := by
    intro j u hj hu
    rw [hb.cell, Nat.add_assoc]
    exact hc _ u ((hat j hj).trans hu)
  exact ⟨cell 0 _ (by omega) rfl, cell 1 _ (by omega) rfl, cell 2 _ (by omega) rfl, cell 3 _ (by omega) rfl, cell 4 _ (by omega) rfl⟩
/-- The call owns the slice v, which reads as the instructions ms. -/
def OwnMacs (w : World) (base : Nat) (v : Value) (ms : List Mac) : Prop := w.ownsRow base 36 5 v ms.length (cellsS ms)
theorem OwnMacs.nil (w : World) (base : Nat) : OwnMacs w base (.slice none 0 0) [] := World.ownsRow_nil w base 36 5
theorem OwnMacs.snoc {w : World} {base : Nat} {v : Value} {ms : List Mac} {m : Mac} (h : w.ownsRow base 36 5 v (ms.length + 1) (cellsS ms ++ m.cells)) : OwnMacs w base v (ms ++ [m]) := by
  unfold OwnMacs
  rw [cellsS_snoc, List.length_append]
  exact h
theorem OwnMacs.below {w w' : World} {base B : Nat} {v : Value} {ms : List Mac} (h : OwnMacs w base v ms) (hb : Below B w w') (hB : B = w.heap.size) : OwnMacs w' base v ms := by
  refine World.ownsRow.kept (row := none) h ⟨hb.os, hb.tape, hb.output, hb.size, fun k hk _ => hb.block k (by omega)⟩ ?_
  cases v.ownBlock <;> simp
theorem OwnMacs.macs {w : World} {base : Nat} {v : Value} {ms : List Mac} (h : OwnMacs w base v ms) : MacsAt w w.heap.size v ms := by
  rcases h.2 with ⟨rfl, hn⟩ | ⟨g, cap, cur, rfl, _, hgg, hnc, hcm, _, _⟩
  · have : ms = [] := List.eq_nil_of_length_eq_zero hn
    subst this
    exact ⟨none, 0, rfl, by simp, by simp, fun h => by simp at h⟩
  · refine macs_of_cells (b := g) (off := 0) (t := 36) (cs := cur) hgg (fun j u hu => ?_) hnc (by unfold maxLen at hcm; omega)
    have hc := World.ownsRow.cells h (g := g) rfl j u hu
    have e : (⟨g, 0, none⟩ : Addr).add j = ⟨g, j, none⟩ := by
      unfold Addr.add
      split <;> simp_all
    rw [e, cell_of_row w g j cur 36 (0, 0) hgg] at hc
    rw [Nat.zero_add]
    exact hc
theorem cells_one (m : Mac) : ∀ u ∈ m.cells, u.oneCell' = true := by
  intro u hu
  simp only [Mac.cells, List.mem_cons, List.not_mem_nil, or_false] at hu
  rcases hu with rfl | rfl | rfl | rfl | rfl <;> rfl
end Go.Proofs.YtliampeaecgagaaDoor
