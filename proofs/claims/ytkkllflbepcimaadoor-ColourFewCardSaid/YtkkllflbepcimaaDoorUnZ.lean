/-
  The reference's weights.
  Conditions: the unit's numbers are Go's.
-/
import Derived.Test.YtkkllflbepcimaaDoorUnX
import Derived.Deep.QuietTactic
import Derived.BigQuiet
namespace Go.Proofs.YtkkllflbepcimaaDoor
open Go.RowKit

/-- One operation of a region that is walked once, the world being of a class. -/
theorem quiet_one {P : Program} {ops : Array Oper} {C : World → Prop} {Q : Act → Prop} {a : Act} {o : Oper} {rest : List Oper} (v : Value) (hw : Region.wanted o (yielded ops a.tmps) = true)
    (h : ∀ w, C w → Oper.quietUpon P C w v ((execOp a.eval o).run P w)) (hn : wpQuiet P ops C Q rest (a.put o.dst v)) : wpQuiet P ops C Q (o :: rest) a :=
  BigFrame.wpQuiet_want hw fun _ hK => ⟨v, h, hK _ hn⟩
theorem region_quiet {P : Program} {id : Nat} {Q : Exit → Act → World → Prop} {a : Act} {w : World} {l : List Oper} (C : World → Prop) (hm : P.follows .mixedOrders = true) (hB : Region.lexB .any l.toArray = true) (hC : C { w with drawn := w.drawn + 1 })
    (h : wpQuiet P l.toArray C (fun a' => ∀ w', C w' → Q .normal a' w') l a) : (Code.region id l.toArray true).wp P Q a w :=
  wp_region_quiet (C := C) hm hB hC (by simpa using h)
theorem wrap_in (x : Int) (h : -9223372036854775808 ≤ x ∧ x ≤ 9223372036854775807) : IntKind.i64.wrap x = x := by
  rw [IntKind.wrap_i64]
  omega
def cnt (l : List Int) (r : Int) : Int := ((l.count r : Nat) : Int)
theorem cnt_app (l m : List Int) (r : Int) : cnt (l ++ m) r = cnt l r + cnt m r := by unfold cnt; rw [List.count_append]; push_cast; rfl
theorem cnt_nil (r : Int) : cnt [] r = 0 := rfl
theorem cnt_le (l : List Int) (r : Int) : 0 ≤ cnt l r ∧ cnt l r ≤ (l.length : Int) := by
  unfold cnt
  have := List.count_le_length (a := r) (l := l)
  omega
theorem cnt_one (r : Int) : cnt [r] r = 1 := by unfold cnt; simp
theorem cnt_dst {x : InsU} {r : Int} (hr : 0 ≤ r) : cnt (if 0 ≤ x.dst then [x.dst] else []) r = if x.dst = r then 1 else 0 := by
  by_cases h : x.dst = r
  · rw [if_pos (by omega), if_pos h, h, cnt_one]
  · rw [if_neg h]
    split
    · unfold cnt; rw [List.count_singleton]; simp [h]
    · rfl
def insCells (x : InsU) (aA : Option Addr) (ac : Nat) : Array Value := #[.int .i64 x.op, .int .i64 x.dst, .bool x.a.reg, .int .i64 x.a.n, .bool x.b.reg, .int .i64 x.b.n, .int .i64 x.fn, .slice aA x.args.length ac]
theorem ints_snoc {w : World} {base : Nat} {v : Value} {xs : List Int} {x : Int} (h : w.ownsRow base 3 1 v (xs.length + 1) (xs.map (Value.int .i64) ++ [.int .i64 x])) : OwnInts w base v (xs ++ [x]) := by
  unfold OwnInts
  rw [List.length_append, List.map_append]
  exact h
theorem own_far {w : World} {base g : Nat} {e t : TypeId} {size n : Nat} {v : Value} {xs : List Value} {cs : Array Value} (h : w.ownsRow base e size v n xs) (hb : Blk w g t cs) (ht : t ≠ e) (o : Nat) (u : Value) : (w.setCell ⟨g, o, none⟩ u).ownsRow base e size v n xs := by
  refine ownsRow_setCell_other h (a := ⟨g, o, none⟩) ?_ u
  rcases h.2 with ⟨rfl, _⟩ | ⟨g', cap, cur, rfl, _, hh, _⟩
  · simp [Value.ownBlock]
  · intro e'
    obtain rfl : g' = g := by simpa [Value.ownBlock] using e'
    have := (show w.heap[g']? = _ from hb).symm.trans hh
    simp at this
    exact ht this.2
theorem OwnInts.far {w : World} {base g : Nat} {t : TypeId} {v : Value} {xs : List Int} {cs : Array Value} (h : OwnInts w base v xs) (hb : Blk w g t cs) (ht : t ≠ 3) (o : Nat) (u : Value) : OwnInts (w.setCell ⟨g, o, none⟩ u) base v xs := own_far h hb ht o u
theorem tally_succ (j : Nat) (l : List Int) : tally (j + 1) l = tally j l ++ [cnt l (j : Int)] := by
  unfold tally
  rw [List.range_succ, List.map_append]
  rfl
end Go.Proofs.YtkkllflbepcimaaDoor
