/-
  Contract of the reference's MacBytes: an instruction's bytes.
  Conditions: the instruction is one that may stand: its registers are in their range.
-/
import Derived.Test.YtdldochhondifaaDoorByB
import Derived.StillTailTactics
import Derived.Maps.AppendAt
import Derived.Deep.RegionLaw
import Derived.Deep.AppendLies
namespace Go.Proofs.YtdldochhondifaaDoor
open Go.RowKit

/-- The registers that an instruction speaks of. -/
def regsS (m : Mac) : List Int := (if shD m.op then [m.dst] else []) ++ (if shA m.op then [m.a] else []) ++ (if shB m.op then [m.b] else [])
/-- Two by two to a byte. -/
def packS : List Int → List Int
  | [] => []
  | [x] => [x]
  | x :: y :: l => (16 * x + y) :: packS l
def codeS (m : Mac) : List Int := m.op :: (packS (regsS m) ++ if shK m.op = 0 then [] else numS (foldS m.n))
theorem pack_end (rs : List Int) (k : Nat) (h : rs.length ≤ k) : packS (rs.drop k) = [] := by rw [List.drop_eq_nil_of_le h]; rfl
theorem drop_one {rs : List Int} {k : Nat} {x : Int} (h : rs[k]? = some x) (hl : k + 1 = rs.length) : rs.drop k = [x] := by
  have hk : k < rs.length := by omega
  rw [List.drop_eq_getElem_cons hk, List.drop_eq_nil_of_le (by omega)]
  rw [List.getElem?_eq_getElem hk] at h
  cases h
  rfl
theorem drop_two {rs : List Int} {k : Nat} {x y : Int} (h : rs[k]? = some x) (h' : rs[k + 1]? = some y) : rs.drop k = x :: y :: rs.drop (k + 2) := by
  have hk' : k + 1 < rs.length := (List.getElem?_eq_some_iff.1 h').1
  have hk : k < rs.length := by omega
  rw [List.drop_eq_getElem_cons hk, List.drop_eq_getElem_cons hk']
  rw [List.getElem?_eq_getElem hk] at h
  rw [List.getElem?_eq_getElem hk'] at h'
  cases h
  cases h'
  rfl
theorem regs_len (m : Mac) : (regsS m).length ≤ 3 := by unfold regsS; split <;> split <;> split <;> simp
theorem regs_in (m : Mac) (h : RegsOk m) : ∀ x ∈ regsS m, 0 ≤ x ∧ x < 16 := by
  obtain ⟨h1, h2, h3⟩ := h
  intro x hx
  unfold regsS at hx
  simp only [List.mem_append] at hx
  rcases hx with (hx | hx) | hx
  · split at hx
    · rw [List.mem_singleton.1 hx]; exact h1 ‹_›
    · cases hx
  · split at hx
    · rw [List.mem_singleton.1 hx]; exact h2 ‹_›
    · cases hx
  · split at hx
    · rw [List.mem_singleton.1 hx]; exact h3 ‹_›
    · cases hx
theorem pack_len : ∀ rs : List Int, (packS rs).length ≤ rs.length
  | [] => by simp [packS]
  | [x] => by simp [packS]
  | x :: y :: l => by have := pack_len l; simp [packS]; omega
theorem OwnInts.snoc {w : World} {base : Nat} {v : Value} {xs : List Int} {x : Int} (h : w.ownsRow base 3 1 v (xs.length + 1) (xs.map (Value.int .i64) ++ [.int .i64 x])) : OwnInts w base v (xs ++ [x]) := by
  unfold OwnInts
  rw [List.length_append, List.map_append]
  exact h
theorem OwnB.snoc {w : World} {base : Nat} {v : Value} {xs : List Int} {x : Int} (h : w.ownsRow base 5 1 v (xs.length + 1) (xs.map (Value.int .u8) ++ [.int .u8 x])) : OwnB w base v (xs ++ [x]) := by
  unfold OwnB
  rw [List.length_append, List.map_append]
  exact h
theorem OwnInts.more {w : World} {base base' : Nat} {v : Value} {xs : List Int} (h : OwnInts w base v xs) (hb : base' ≤ base) : OwnInts w base' v xs := by
  obtain ⟨h1, h2⟩ := h
  refine ⟨h1, ?_⟩
  rcases h2 with h2 | ⟨g, cap, cur, e, hg, h3⟩
  · exact .inl h2
  · exact .inr ⟨g, cap, cur, e, by omega, h3⟩

theorem own_blk {w : World} {g base : Nat} {x : Int} (h : Blk w g 5 #[.int .u8 x]) (hb : base ≤ g) : OwnB w base (.slice (some ⟨g, 0, none⟩) 1 1) [x] :=
  ⟨rfl, .inr ⟨g, 1, #[.int .u8 x], rfl, hb, h, Nat.le_refl _, by unfold maxLen; omega, rfl, rfl⟩⟩
theorem own_someI {w : World} {base : Nat} {v : Value} {xs : List Int} (h : OwnInts w base v xs) (hx : 0 < xs.length) : ∃ g cap, v = .slice (some ⟨g, 0, none⟩) xs.length cap ∧ base ≤ g := by
  rcases h.2 with ⟨_, h0⟩ | ⟨g, cap, cur, e, hg, _⟩
  · omega
  · exact ⟨g, cap, e, hg⟩
theorem own_cell {w : World} {base g n cap : Nat} {xs : List Int} (h : OwnInts w base (.slice (some ⟨g, 0, none⟩) n cap) xs) {k : Nat} {x : Int} (hk : xs[k]? = some x) : w.cell? ⟨g, k, none⟩ = some (.int .i64 x) := by
  have := World.ownsRow.cells h rfl k (.int .i64 x) (by rw [List.getElem?_map, hk]; rfl)
  unfold Addr.add at this
  split at this <;> simp_all
/-- The loop that packs the registers: so far pre, what is left stands from k on. -/
def packRel (W : World) (B : Nat) (op : Int) (rs : List Int) (u : Value) (v i : Value) (wr : World) : Prop :=
  ∃ (k : Nat) (pre : List Int), i = .int .i64 k ∧ k ≤ 4 ∧ Hid (packS rs = pre ++ packS (rs.drop k)) ∧ Hid (pre.length ≤ k) ∧ Hid (Below B W wr) ∧ Hid (OwnB wr B v (op :: pre)) ∧ Hid (OwnInts wr B u rs) ∧ Hid (∀ g, v.ownBlock = some g → u.ownBlock ≠ some g)
theorem below_drew {B : Nat} {a w : World} (h : Below B a w) : Below B a w.drew := ⟨h.os, h.tape, h.output, h.size, h.block⟩
theorem own_form {w : World} {base : Nat} {v : Value} {xs : List Int} (h : OwnInts w base v xs) : ∃ A cap, v = .slice A xs.length cap := by
  rcases h.2 with ⟨e, h0⟩ | ⟨g, cap, cur, e, hg, _⟩
  · exact ⟨none, 0, by rw [h0]; exact e⟩
  · exact ⟨_, cap, e⟩
theorem kind_cases (op : Int) : (hasS (fldS op) 110 = true ∧ ¬ shK op = 0) ∨ (hasS (fldS op) 110 = false ∧ hasS (fldS op) 116 = true ∧ ¬ shK op = 0) ∨
    (hasS (fldS op) 110 = false ∧ hasS (fldS op) 116 = false ∧ hasS (fldS op) 119 = true ∧ ¬ shK op = 0) ∨
    (hasS (fldS op) 110 = false ∧ hasS (fldS op) 116 = false ∧ hasS (fldS op) 119 = false ∧ hasS (fldS op) 114 = true ∧ ¬ shK op = 0) ∨
    (hasS (fldS op) 110 = false ∧ hasS (fldS op) 116 = false ∧ hasS (fldS op) 119 = false ∧ hasS (fldS op) 114 = false ∧ shK op = 0) := by
  unfold shK
  cases hasS (fldS op) 110 <;> cases hasS (fldS op) 116 <;> cases hasS (fldS op) 119 <;> cases hasS (fldS op) 114 <;> simp
theorem MacAt.row {w : World} {b : Nat} {m : Mac} (h : MacAt w b 0 m) : w.cell? ⟨b, 1, none⟩ = some (.int .i64 m.dst) ∧ w.cell? ⟨b, 2, none⟩ = some (.int .i64 m.a) ∧ w.cell? ⟨b, 3, none⟩ = some (.int .i64 m.b) ∧ w.cell? ⟨b, 4, none⟩ = some (.int .i64 m.n) := by
  obtain ⟨_, h1, h2, h3, h4⟩ := h
  simp only [Nat.zero_add] at h1 h2 h3 h4
  exact ⟨h1, h2, h3, h4⟩

end Go.Proofs.YtdldochhondifaaDoor
