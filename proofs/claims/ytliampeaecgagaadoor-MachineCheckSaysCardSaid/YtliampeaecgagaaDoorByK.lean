/-
  Slices that read as bytes; string(b) of one.
  Conditions: none.
-/
import Derived.Test.YtliampeaecgagaaDoorByB
import Derived.Laws.BytesArg
namespace Go.Proofs.YtliampeaecgagaaDoor
open Go.RowKit

/-- The slice value v reads as the bytes xs, below block B. -/
def BAt (w : World) (B : Nat) (v : Value) (xs : List Int) : Prop :=
  ∃ (A : Option Addr) (c : Nat), v = .slice A xs.length c ∧ xs.length ≤ c ∧ c ≤ 9223372036854775807 ∧
    (0 < xs.length → ∃ b off, A = some ⟨b, off, none⟩ ∧ b < B ∧ ∀ (k : Nat) (x : Int), xs[k]? = some x → w.cell? ⟨b, off + k, none⟩ = some (.int .u8 x))
theorem BAt.below {W w1 : World} {B B' : Nat} {v : Value} {xs : List Int} (h : BAt W B v xs) (hb : Below B' W w1) (hB : B ≤ B') : BAt w1 B v xs := by
  obtain ⟨A, c, e, h1, h2, h3⟩ := h
  refine ⟨A, c, e, h1, h2, fun hl => ?_⟩
  obtain ⟨b, off, e1, e2, e3⟩ := h3 hl
  exact ⟨b, off, e1, e2, fun k m hk => (bcell hb (Nat.lt_of_lt_of_le e2 hB)).trans (e3 k m hk)⟩
theorem BAt.more {w : World} {B B' : Nat} {v : Value} {xs : List Int} (h : BAt w B v xs) (hB : B ≤ B') : BAt w B' v xs := by
  obtain ⟨A, c, e, h1, h2, h3⟩ := h
  refine ⟨A, c, e, h1, h2, fun hl => ?_⟩
  obtain ⟨b, off, e1, e2, e3⟩ := h3 hl
  exact ⟨b, off, e1, by omega, e3⟩
theorem BAt.nil (w : World) (B : Nat) : BAt w B (.slice none 0 0) [] := ⟨none, 0, rfl, by simp, by omega, fun h => by simp at h⟩
theorem OwnB.bytes {w : World} {base : Nat} {v : Value} {xs : List Int} (h : OwnB w base v xs) : BAt w w.heap.size v xs := by
  have hc := fun {g : Nat} (hg : v.ownBlock = some g) => World.ownsRow.cells h hg
  rcases h.2 with ⟨rfl, hn⟩ | ⟨g, cap, cur, rfl, _, hgg, hnc, hcm, _, _⟩
  · exact ⟨none, 0, by rw [hn], by omega, by omega, fun h => by omega⟩
  · refine ⟨some ⟨g, 0, none⟩, cap, rfl, hnc, by unfold maxLen at hcm; omega, fun _ => ⟨g, 0, rfl, ?_, fun k x hk => ?_⟩⟩
    · rcases Nat.lt_or_ge g w.heap.size with h | h
      · exact h
      · rw [Array.getElem?_eq_none h] at hgg; cases hgg
    · have := hc (g := g) rfl k (.int .u8 x) (by rw [List.getElem?_map, hk]; rfl)
      rw [← this]
      unfold Addr.add
      split <;> simp_all
/-- string(b) of such a slice. -/
theorem conv_bytes {w : World} {B : Nat} {v : Value} {xs : List Int} (h : BAt w B v xs) : (convert 22 9 v).run Tryd.prog w = .ok (.string (strOfNums xs)) w := by
  obtain ⟨A, c, rfl, h1, h2, h3⟩ := h
  cases A with
  | none =>
    have h0 : xs.length = 0 := by
      rcases Nat.eq_zero_or_pos xs.length with h | h
      · exact h
      · obtain ⟨b, off, e, _⟩ := h3 h
        cases e
    rw [List.eq_nil_of_length_eq_zero h0]
    exact run_convert_bytes_nil w 22 5 Tryd.underlying22 Tryd.underlying5 _ _ _ Tryd.underlying9
  | some a =>
    by_cases hpos : 0 < xs.length
    · obtain ⟨b, off, e, _, hc⟩ := h3 hpos
      cases e
      refine run_convert_bytes_arg w 22 5 Tryd.underlying22 Tryd.underlying5 b off xs.length c xs rfl (fun i hi => ?_) _ Tryd.underlying9
      have := hc i xs[i] (List.getElem?_eq_getElem hi)
      rw [this, List.getD_eq_getElem?_getD, List.getElem?_eq_getElem hi]
      rfl
    · have h0 : xs = [] := List.eq_nil_of_length_eq_zero (by omega)
      subst h0
      obtain ⟨b, off, s⟩ := a
      have hl : (loadCells ⟨b, off, s⟩ 0).run Tryd.prog w = .ok (([] : List Int).map (Value.int .u8)).toArray w := by
        have := run_loadCells_list (P := Tryd.prog) w ⟨b, off, s⟩ [] (fun j v hj => by simp at hj)
        simpa using this
      rw [run_convert_bytes_string w 22 9 5 _ _ c Tryd.underlying22 Tryd.underlying5 Tryd.underlying9, List.length_nil, run_bytesToString w _ 0 c [] hl]
      rfl
/-- Two texts of bytes are the same just if the bytes are. -/
theorem str_inj {xs ys : List Int} (hx : ∀ x ∈ xs, 0 ≤ x ∧ x < 256) (hy : ∀ x ∈ ys, 0 ≤ x ∧ x < 256) (h : strOfNums xs = strOfNums ys) : xs = ys := by
  have h1 : (strOfNums xs).data.toList = (strOfNums ys).data.toList := by rw [h]
  rw [strOfNums_data, strOfNums_data] at h1
  have key : ∀ (xs ys : List Int), (∀ x ∈ xs, 0 ≤ x ∧ x < 256) → (∀ x ∈ ys, 0 ≤ x ∧ x < 256) → (xs.map fun n => UInt8.ofNat n.toNat) = (ys.map fun n => UInt8.ofNat n.toNat) → xs = ys := by
    intro xs
    induction xs with
    | nil => intro ys _ _ h; cases ys with | nil => rfl | cons y ys => simp at h
    | cons x xs ih =>
      intro ys hx hy h
      cases ys with
      | nil => simp at h
      | cons y ys =>
        simp only [List.map_cons, List.cons.injEq] at h
        have e : x = y := by
          have hx0 := hx x (by simp)
          have hy0 := hy y (by simp)
          have h2 : (UInt8.ofNat x.toNat).toNat = (UInt8.ofNat y.toNat).toNat := by rw [h.1]
          simp only [UInt8.toNat_ofNat'] at h2
          omega
        rw [e, ih ys (fun z hz => hx z (by simp [hz])) (fun z hz => hy z (by simp [hz])) h.2]
  exact key xs ys hx hy h1
end Go.Proofs.YtliampeaecgagaaDoor
