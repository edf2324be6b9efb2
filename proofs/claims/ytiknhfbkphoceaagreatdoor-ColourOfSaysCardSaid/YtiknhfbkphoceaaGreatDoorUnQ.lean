/-
  Rows of numbers that the call owns, apart from each other, below one block of rows (conditions: as the theorems say).
-/
import Derived.Test.YtiknhfbkphoceaaGreatDoorUnL
import Derived.Deep.OwnRows
namespace Go.Proofs.YtiknhfbkphoceaaGreatDoor
open Go.RowKit

/-- Rows of different element types lie in different blocks. -/
theorem own_apart {w : World} {base base' : Nat} {e e' : TypeId} {size size' n n' : Nat} {v v' : Value} {xs xs' : List Value} (h : w.ownsRow base e size v n xs) (h' : w.ownsRow base' e' size' v' n' xs') (hne : e ≠ e') : ∀ k, v.ownBlock = some k → v'.ownBlock ≠ some k := by
  intro k hk hk'
  rcases h.2 with ⟨rfl, _⟩ | ⟨g, cap, cur, rfl, _, hg, _⟩
  · simp [Value.ownBlock] at hk
  rcases h'.2 with ⟨rfl, _⟩ | ⟨g', cap', cur', rfl, _, hg', _⟩
  · simp [Value.ownBlock] at hk'
  simp only [Value.ownBlock, Option.some.injEq] at hk hk'
  subst hk
  subst hk'
  rw [hg] at hg'
  simp only [Option.some.injEq, Obj.cells.injEq] at hg'
  exact hne hg'.2.1
theorem row_lt {w : World} {base : Nat} {e : TypeId} {size n : Nat} {v : Value} {xs : List Value} (h : w.ownsRow base e size v n xs) {w' : World} (hb : Below w.heap.size w w') : w'.ownsRow base e size v n xs := by
  refine World.ownsRow.kept (row := none) h ⟨hb.os, hb.tape, hb.output, hb.size, fun k hk _ => hb.block k hk⟩ ?_
  cases v.ownBlock <;> simp
/-- A row stands where a block of another element type is written. -/
theorem row_far {w : World} {base : Nat} {e : TypeId} {size n : Nat} {v : Value} {xs : List Value} (h : w.ownsRow base e size v n xs) {g o : Nat} {t : TypeId} {cs : Array Value} (hb : Blk w g t cs) (hne : e ≠ t) (u : Value) : (w.setCell ⟨g, o, none⟩ u).ownsRow base e size v n xs := by
  refine ownsRow_setCell_other h ?_ u
  rcases h.2 with ⟨rfl, _⟩ | ⟨g', cap, cur, rfl, _, hg, _⟩
  · simp [Value.ownBlock]
  · simp only [Value.ownBlock, ne_eq, Option.some.injEq]
    rintro rfl
    unfold Blk at hb
    rw [hg] at hb
    simp only [Option.some.injEq, Obj.cells.injEq] at hb
    exact hne hb.2.1
theorem row_form {w : World} {base : Nat} {e : TypeId} {size : Nat} {v : Value} {n : Nat} {xs : List Value} (h : w.ownsRow base e size v n xs) : ∃ A cap, v = .slice A n cap := by
  rcases h.2 with ⟨rfl, rfl⟩ | ⟨g, cap, cur, e, _⟩
  · exact ⟨none, 0, rfl⟩
  · exact ⟨_, cap, e⟩
theorem info_ints : (Tryz.prog.info? 26).map (fun i => (i.zero, i.size, i.bytes)) = some (some (.slice none 0 0), 1, 24) := by kernel_rfl
/-- Block g holds rows of numbers that the call owns, apart from each other. -/
structure RowsG (w : World) (base g n : Nat) (R : Nat → Value) (F : Nat → List Int) : Prop where
  blk : Blk w g 26 ((List.range n).map R).toArray
  ge : base ≤ g
  own : ∀ q, q < n → OwnInts w base (R q) (F q)
  ap : ∀ p q, p < n → q < n → p ≠ q → ∀ b, (R p).ownBlock = some b → (R q).ownBlock ≠ some b
section
variable {w w' : World} {base g n : Nat} {R : Nat → Value} {F : Nat → List Int}
theorem RowsG.below (h : RowsG w base g n R F) (hb : Below w.heap.size w w') : RowsG w' base g n R F :=
  ⟨h.blk.below hb h.blk.lt, h.ge, fun q hq => row_lt (h.own q hq) hb, h.ap⟩
theorem RowsG.alloc (h : RowsG w base g n R F) (o : Obj) : RowsG (w.alloc o) base g n R F := h.below ((Below.refl _ _).alloc (Nat.le_refl _) o)
theorem row_blk {g : Nat} {t : TypeId} {f : Nat → Value} (h : w.rowIs g t n f) : Blk w g t ((List.range n).map f).toArray := by
  obtain ⟨c, hb, hs, hc⟩ := h
  have e : c = ((List.range n).map f).toArray := by
    apply Array.ext
    · simp [hs]
    · intro i h1 h2
      have := hc i (by omega)
      rw [Array.getElem?_eq_getElem h1] at this
      simp only [Option.some.injEq] at this
      simp [this]
  unfold Blk
  rw [← e]
  exact hb
theorem RowsG.start (w : World) {base : Nat} (hb : base ≤ w.heap.size) (n : Nat) : RowsG (w.alloc (.cells (madeCells #[.slice none 0 0] n) 26)) base w.heap.size n (fun _ => .slice none 0 0) (fun _ => []) :=
  ⟨row_blk (World.rowIs_made w (.slice none 0 0) n 26), hb, fun q _ => OwnInts.nil _ _, fun p q _ _ _ b h => by simp [Value.ownBlock] at h⟩
theorem RowsG.cell (h : RowsG w base g n R F) {t : Nat} (ht : t < n) : w.cell? ⟨g, t, none⟩ = some (R t) := by
  rw [h.blk.cell t]
  simp [ht]
/-- A number put down behind row t. -/
theorem RowsG.put (h : RowsG w base g n R F) {t : Nat} (ht : t < n) {x : Int} {v' : Value} {H : Nat} (hH : w.heap.size ≤ H)
    (ha : Appended w base 3 1 (R t) ((F t).length + 1) ((F t).map (Value.int .i64) ++ [.int .i64 x]) H v' w') :
    RowsG (w'.setCell ⟨g, t, none⟩ v') base g n (fun q => if q = t then v' else R q) (fun q => if ((q : Nat) : Int) = (t : Int) then F q ++ [x] else F q) := by
  have hblk : Blk w' g 26 ((List.range n).map R).toArray := ha.blk (h.own t ht) h.blk (by decide)
  have hv' : OwnInts w' base v' (F t ++ [x]) := by
    unfold OwnInts
    rw [List.length_append, List.map_append]
    exact ha.own
  refine ⟨?_, h.ge, fun q hq => ?_, fun p q hp hq hne b hb => ?_⟩
  · have e : ((List.range n).map fun q => if q = t then v' else R q).toArray = ((List.range n).map R).toArray.setIfInBounds t v' := by
      apply Array.toList_inj.1
      apply List.ext_getElem?
      intro j
      simp only [Array.toList_setIfInBounds]
      rw [List.getElem?_set]
      rcases Nat.lt_or_ge j n with hj | hj
      · simp only [List.getElem?_map, List.getElem?_range hj, Option.map_some]
        by_cases e : t = j
        · subst e
          simp [hj]
        · simp [e, Ne.symm e]
      · have h1 : ¬ t = j := by omega
        simp [h1, hj]
    rw [e]
    exact hblk.set_ t v'
  · by_cases e : q = t
    · subst e
      simp only [if_true]
      exact row_far hv' hblk (by decide) _
    · have e2 : ¬ ((q : Nat) : Int) = (t : Int) := by omega
      simp only [if_neg e, if_neg e2]
      exact row_far (ha.row (h.own q hq) (h.ap q t hq ht e)) hblk (by decide) _
  · have fresh : ∀ r, r < n → r ≠ t → v'.ownBlock = some b → (R r).ownBlock ≠ some b := by
      intro r hr hrt hv hrb
      rcases ha.2.2.2 with e | e
      · rw [e] at hv
        exact h.ap t r ht hr (Ne.symm hrt) b hv hrb
      · rw [e] at hv
        injection hv with hv
        have := (World.ownsRow.lt (h.own r hr) b hrb).2
        omega
    by_cases ep : p = t
    · have eq : q ≠ t := fun e => hne (ep.trans e.symm)
      simp only [if_pos ep] at hb
      simp only [if_neg eq]
      exact fresh q hq eq hb
    · simp only [if_neg ep] at hb
      by_cases eq : q = t
      · simp only [if_pos eq]
        intro hvb
        exact fresh p hp ep hvb hb
      · simp only [if_neg eq]
        exact h.ap p q hp hq hne b hb
end
def RowP (w : World) (B : Nat) (us : List Value) (xs : List Int) : Prop := ∃ v, us = [v] ∧ IntsAt w B v xs
/-- A slice of rows of numbers. -/
def RowsAtU (w : World) (B : Nat) (v : Value) (xss : List (List Int)) : Prop := SlAt 1 RowP w B v xss
theorem RowsAtU.move {w w1 : World} {B B' : Nat} {v : Value} {xss : List (List Int)} (h : RowsAtU w B v xss) (hB : B ≤ B') (hk : Kept w w1 B) : RowsAtU w1 B' v xss :=
  SlAt.move h hB hk fun _ _ ⟨v, e, hi⟩ => ⟨v, e, hi.move hB hk⟩
theorem RowsG.rows {w : World} {base g n : Nat} {R : Nat → Value} {F : Nat → List Int} (h : RowsG w base g n R F) (hn : n ≤ 140737488351232) : RowsAtU w w.heap.size (.slice (some ⟨g, 0, none⟩) n n) ((List.range n).map F) := by
  refine ⟨some ⟨g, 0, none⟩, n, by simp, by simp, ⟨by simpa using hn, by omega⟩, fun _ => ⟨g, 0, rfl, h.blk.lt, fun k xs hk => ?_⟩⟩
  have hkn : k < n := by
    have := (List.getElem?_eq_some_iff.1 hk).1
    simpa using this
  have hx : xs = F k := by
    rw [List.getElem?_map, List.getElem?_range hkn] at hk
    simpa using hk.symm
  subst hx
  refine ⟨[R k], ⟨R k, rfl, (h.own k hkn).ints⟩, fun j u hj => ?_⟩
  cases j with
  | zero =>
    simp only [List.getElem?_cons_zero, Option.some.injEq] at hj
    subst hj
    have := h.cell hkn
    simpa using this
  | succ j => simp at hj
end Go.Proofs.YtiknhfbkphoceaaGreatDoor
