/-
  Contracts of mac.Of, slices.Index, slices.Contains, slices.Max (on numbers).
  Conditions: Of reads the table shapes, which lies as its initialiser lays it ('Tab').
-/
import Derived.Test.YtdldochhondifaaDoorMacA
namespace Go.Proofs.YtdldochhondifaaDoor
open Go.RowKit

/-- The shape of an Op: which registers it speaks of; what its number is. -/
def shD (op : Int) : Bool := hasS (fldS op) 100
def shA (op : Int) : Bool := hasS (fldS op) 97
def shB (op : Int) : Bool := hasS (fldS op) 98
def shK (op : Int) : Int := if hasS (fldS op) 110 then 1 else if hasS (fldS op) 116 then 2 else if hasS (fldS op) 119 then 3 else if hasS (fldS op) 114 then 4 else 0
/-- Is it one that the table is asked for? -/
def inTab (k : Int) : Prop := 1 ≤ k ∧ k ≤ 47 ∧ ¬ (5 ≤ k ∧ k ≤ 18) ∧ ¬ (19 ≤ k ∧ k ≤ 32) ∧ ¬ (40 ≤ k ∧ k ≤ 43)
/-- The table shapes lies in block 1. -/
def Tab (w : World) : Prop := 1 < w.heap.size ∧ ∀ k : Int, inTab k →
  w.cell? ⟨1, k.toNat * 4, none⟩ = some (.bool (shD k)) ∧ w.cell? ⟨1, k.toNat * 4 + 1, none⟩ = some (.bool (shA k)) ∧
  w.cell? ⟨1, k.toNat * 4 + 2, none⟩ = some (.bool (shB k)) ∧ w.cell? ⟨1, k.toNat * 4 + 3, none⟩ = some (.int .i64 (shK k))
theorem Tab.below {W w : World} {B : Nat} (h : Tab W) (hb : Below B W w) (hB : 1 < B) (hz : B ≤ w.heap.size) : Tab w := by
  refine ⟨by omega, fun k hk => ?_⟩
  simp only [bcell hb hB]
  exact h.2 k hk
theorem Tab.own {W w : World} (h : Tab W) (hb : Below W.heap.size W w) : Tab w := h.below hb h.1 hb.size
theorem sh_lo (op : Int) (h : op < 1 ∨ 47 < op) : shD op = false ∧ shA op = false ∧ shB op = false ∧ shK op = 0 := by
  unfold shD shA shB shK; rw [fld_lo op h]; decide
theorem sh_two (op : Int) (h : 5 ≤ op ∧ op ≤ 18) : shD op = true ∧ shA op = true ∧ shB op = true ∧ shK op = 0 := by
  unfold shD shA shB shK; rw [fld_two op h]; decide
theorem sh_num (op : Int) (h : 19 ≤ op ∧ op ≤ 32) : shD op = true ∧ shA op = true ∧ shB op = false ∧ shK op = 1 := by
  unfold shD shA shB shK; rw [fld_num op h]; decide
theorem sh_jmp (op : Int) (h : 40 ≤ op ∧ op ≤ 43) : shD op = false ∧ shA op = true ∧ shB op = true ∧ shK op = 2 := by
  unfold shD shA shB shK; rw [fld_jmp op h]; decide
/-- The shape as a value. -/
def shV (op : Int) : Value := .agg #[.bool (shD op), .bool (shA op), .bool (shB op), .int .i64 (shK op)]
theorem shV_eq {op : Int} {d a b : Bool} {k : Int} (h : shD op = d ∧ shA op = a ∧ shB op = b ∧ shK op = k) : shV op = .agg #[.bool d, .bool a, .bool b, .int .i64 k] := by
  unfold shV; rw [h.1, h.2.1, h.2.2.1, h.2.2.2]
theorem ret_sh {op : Int} {d a b : Bool} {k : Int} {x y : Bool} (h : shD op = d ∧ shA op = a ∧ shB op = b ∧ shK op = k) (hx : x = y) :
    Ending.returned (.tuple #[.agg #[.bool d, .bool a, .bool b, .int .i64 k], .bool x]) = .returned (.tuple #[.agg #[.bool (shD op), .bool (shA op), .bool (shB op), .int .i64 (shK op)], .bool y]) := by
  rw [hx, h.1, h.2.1, h.2.2.1, h.2.2.2]
/-- Is there such an Op? -/
def isOp (op : Int) : Bool := decide (1 ≤ op ∧ op ≤ 47)

set_option maxHeartbeats 1000000 in
theorem Of_any (op : Int) (w : World) (ht : Tab w) :
    Calls Tryd.prog 23 #[.int .i64 op] w fun e w' => e = .returned (.tuple #[.agg #[.bool (shD op), .bool (shA op), .bool (shB op), .int .i64 (shK op)], .bool (isOp op)]) ∧ Below w.heap.size w w' := by
  by_cases h0 : op < 1 ∨ 47 < op
  · have hf := Lib.hid (sh_lo op h0)
    have hi := Lib.hid (show false = isOp op by unfold isOp; simp; omega)
    clear ht
    rcases h0 with h0 | h0
    all_goals
      go_enter Tryd.func23, Tryd.ntmps23
      go_wp2
      exact bodyPost_ret (v := .tuple #[.agg #[.bool false, .bool false, .bool false, .int .i64 0], .bool false]) (by simp [results, Tryd.results23, go_sem]) rfl ⟨ret_sh hf.out hi.out, (Below.refl _ _).alloc (Nat.le_refl _) _⟩
  · have h1 : 1 ≤ op := by omega
    have h47 : op ≤ 47 := by omega
    have hi := Lib.hid (show true = isOp op by unfold isOp; simp; omega)
    by_cases h2 : 5 ≤ op ∧ op ≤ 18
    · have hf := Lib.hid (sh_two op h2)
      obtain ⟨ha, hb⟩ := h2
      clear h0 ht
      go_enter Tryd.func23, Tryd.ntmps23
      go_wp2
      exact bodyPost_ret (v := .tuple #[.agg #[.bool true, .bool true, .bool true, .int .i64 0], .bool true]) (by simp [results, Tryd.results23, go_sem]) rfl ⟨ret_sh hf.out hi.out, (Below.refl _ _).alloc (Nat.le_refl _) _⟩
    by_cases h3 : 19 ≤ op ∧ op ≤ 32
    · have hf := Lib.hid (sh_num op h3)
      obtain ⟨ha, hb⟩ := h3
      clear h0 ht
      go_enter Tryd.func23, Tryd.ntmps23
      go_wp2
      exact bodyPost_ret (v := .tuple #[.agg #[.bool true, .bool true, .bool false, .int .i64 1], .bool true]) (by simp [results, Tryd.results23, go_sem]) rfl ⟨ret_sh hf.out hi.out, (Below.refl _ _).alloc (Nat.le_refl _) _⟩
    by_cases h4 : 40 ≤ op ∧ op ≤ 43
    · have hf := Lib.hid (sh_jmp op h4)
      obtain ⟨ha, hb⟩ := h4
      clear h0 ht
      go_enter Tryd.func23, Tryd.ntmps23
      go_wp2
      exact bodyPost_ret (v := .tuple #[.agg #[.bool false, .bool true, .bool true, .int .i64 2], .bool true]) (by simp [results, Tryd.results23, go_sem]) rfl ⟨ret_sh hf.out hi.out, (Below.refl _ _).alloc (Nat.le_refl _) _⟩
    · obtain ⟨hz, hcells⟩ := ht
      obtain ⟨c0, c1, c2, c3⟩ := hcells op ⟨h1, h47, h2, h3, h4⟩
      clear h0 hcells
      rcases (by omega : op < 5 ∨ (32 < op ∧ op < 40) ∨ 43 < op) with ha | ⟨ha, hb⟩ | ha
      all_goals
        go_enter Tryd.func23, Tryd.ntmps23
        go_wp2
        exact bodyPost_ret (v := .tuple #[.agg #[.bool (shD op), .bool (shA op), .bool (shB op), .int .i64 (shK op)], .bool true]) (by simp [results, Tryd.results23, go_sem]) rfl ⟨ret_sh ⟨rfl, rfl, rfl, rfl⟩ hi.out, (Below.refl _ _).alloc (Nat.le_refl _) _⟩

/-- Four numbers in a row, from an address on. -/
def Four (w : World) (g : Nat) (c0 c1 c2 c3 : Int) : Prop :=
  w.cell? ⟨g, 0, none⟩ = some (.int .i64 c0) ∧ w.cell? ⟨g, 1, none⟩ = some (.int .i64 c1) ∧ w.cell? ⟨g, 2, none⟩ = some (.int .i64 c2) ∧ w.cell? ⟨g, 3, none⟩ = some (.int .i64 c3)
end Go.Proofs.YtdldochhondifaaDoor
