/-
  Stores into the blocks of the program's machine: a call's block, the memory's row; rows that grow.
  Conditions: none.
-/
import Derived.Test.YtkiaffaieniebaaDoorRuA
import Derived.KernelRfl
namespace Go.Proofs.YtkiaffaieniebaaDoor
open Go.RowKit

theorem fr_r (c : Fr) : (frCells c).toArray[0]? = some (.int .i64 (c.r : Int)) := rfl
theorem fr_pc (c : Fr) : (frCells c).toArray[1]? = some (.int .i64 (c.pc : Int)) := rfl
theorem fr_ws (c : Fr) {k : Nat} (h : k < c.ws.length) : (frCells c).toArray[2 + k]? = some (.int .i64 (c.ws.getD k 0)) := by
  unfold frCells
  rw [List.getElem?_toArray, show 2 + k = (k + 1) + 1 by omega, List.getElem?_cons_succ, List.getElem?_cons_succ, intV_get _ _ h]
theorem fr_set_pc (c : Fr) (n : Nat) : (frCells c).toArray.setIfInBounds 1 (.int .i64 (n : Int)) = (frCells { c with pc := n }).toArray := by
  unfold frCells
  rw [List.setIfInBounds_toArray, List.set_cons_succ, List.set_cons_zero]
theorem fr_set_ws (c : Fr) (k : Nat) (n : Int) : (frCells c).toArray.setIfInBounds (2 + k) (.int .i64 n) = (frCells { c with ws := c.ws.set k n }).toArray := by
  unfold frCells
  rw [List.setIfInBounds_toArray, show 2 + k = (k + 1) + 1 by omega, List.set_cons_succ, List.set_cons_succ, ← intV_set]
theorem Blk.types {w : World} {g g' : Nat} {t t' : TypeId} {cs cs' : Array Value} (h : Blk w g t cs) (h' : Blk w g' t' cs') (hne : t ≠ t') : g ≠ g' := by
  rintro rfl
  unfold Blk at h h'
  rw [h] at h'
  simp only [Option.some.injEq, Obj.cells.injEq] at h'
  exact hne h'.2.1
/-- The block of a row that is not nil. -/
theorem row_blk {w : World} {base : Nat} {e : TypeId} {size n b cap : Nat} {xs : List Value} (h : w.ownsRow base e size (.slice (some ⟨b, 0, none⟩) n cap) n xs) : base ≤ b ∧ ∃ cur, Blk w b e cur := by
  rcases h.2 with ⟨h', _⟩ | ⟨g', cap', cur', h', hb, hg, _⟩
  · simp at h'
  · simp only [Value.slice.injEq, Option.some.injEq, Addr.mk.injEq, and_true, true_and] at h'
    obtain ⟨rfl, rfl⟩ := h'
    exact ⟨hb, _, hg⟩
theorem row_some {w : World} {base : Nat} {e : TypeId} {size n : Nat} {v : Value} {xs : List Value} (h : w.ownsRow base e size v n xs) (hn : 0 < n) : ∃ b cap, v = .slice (some ⟨b, 0, none⟩) n cap ∧ n ≤ cap ∧ cap ≤ 9223372036854775807 := by
  rcases h.2 with ⟨_, h0⟩ | ⟨g, cap, cur, rfl, _, _, h1, h2, _⟩
  · omega
  · exact ⟨g, cap, rfl, h1, by unfold maxLen at h2; omega⟩
section
variable {w : World} {base g : Nat} {codes : List (List Mac)} {mem : List Int} {c : Fr} {calls cs : List Fr} {input out : List Int} {cv mv lv iv ov : Value} {p : Nat} {ps : List Nat} {ms : Array Value}
theorem MRest.top (h : MRest w base codes mem (c :: cs) input out cv mv lv iv ov (p :: ps)) : base ≤ p ∧ Blk w p 98 (frCells c).toArray := ⟨h.frs.1, h.frs.2.2.1⟩
theorem MRest.setp (h : MRest w base codes mem (c :: cs) input out cv mv lv iv ov (p :: ps)) (hg : Blk w g 102 ms) (c' : Fr) {o : Nat} {u : Value} (he : (frCells c).toArray.setIfInBounds o u = (frCells c').toArray) :
    Blk (w.setCell ⟨p, o, none⟩ u) g 102 ms ∧ MRest (w.setCell ⟨p, o, none⟩ u) base codes mem (c' :: cs) input out cv mv lv iv ov (p :: ps) := by
  obtain ⟨hp, hpb⟩ := h.top
  have hw : Below base w (w.setCell ⟨p, o, none⟩ u) := (Below.refl base w).setCell hp u
  refine ⟨hg.far (hg.types hpb (by decide)) u, h.hcodes.below hw (Nat.le_refl _), row_far h.hmem hpb (by decide) u, row_far h.hcalls hpb (by decide) u, h.hinput.below hw (Nat.le_refl _), row_far h.hout hpb (by decide) u, h.apart, hp, h.frs.2.1, ?_, ?_⟩
  · rw [← he]
    exact hpb.set_ o u
  · refine h.frs.2.2.2.keep fun q hq l hl => hl.far ?_ u
    rintro rfl
    exact h.frs.2.1 hq
theorem MRest.setmem {b cap k : Nat} (h : MRest w base codes mem calls input out cv (.slice (some ⟨b, 0, none⟩) mem.length cap) lv iv ov ps) (hg : Blk w g 102 ms) (n : Int) :
    Blk (w.setCell ⟨b, k, none⟩ (.int .i64 n)) g 102 ms ∧ MRest (w.setCell ⟨b, k, none⟩ (.int .i64 n)) base codes (mem.set k n) calls input out cv (.slice (some ⟨b, 0, none⟩) mem.length cap) lv iv ov ps := by
  obtain ⟨hb, cur, hbb⟩ := row_blk h.hmem
  have hw : Below base w (w.setCell ⟨b, k, none⟩ (.int .i64 n)) := (Below.refl base w).setCell hb _
  have hs := (World.ownsRow.stored h.hmem k (.int .i64 n)).1
  rw [← intV_set] at hs
  refine ⟨hg.far (hg.types hbb (by decide)) _, h.hcodes.below hw (Nat.le_refl _), by rw [List.length_set]; exact hs, row_far h.hcalls hbb (by decide) _, h.hinput.below hw (Nat.le_refl _), ownsRow_setCell_other h.hout ?_ _, h.apart, h.frs.keep fun q hq l hl => hl.far (hl.types hbb (by decide)) _⟩
  exact h.apart b rfl
theorem mem_cell {b cap k : Nat} (h : MRest w base codes mem calls input out cv (.slice (some ⟨b, 0, none⟩) mem.length cap) lv iv ov ps) (hk : k < mem.length) : w.cell? ⟨b, k, none⟩ = some (.int .i64 (mem.getD k 0)) ∧ w.frozen? ⟨b, k, none⟩ = false := by
  refine ⟨?_, World.ownsRow.frozenAt h.hmem k⟩
  rw [World.ownsRow.cellAt h.hmem k (by omega), intV_get _ _ hk]
/-- The cell of the calls' row that leads to the newest. -/
theorem top_cell {b cap : Nat} (h : MRest w base codes mem calls input out cv mv (.slice (some ⟨b, 0, none⟩) (ps.length + 1) cap) iv ov (p :: ps)) : w.cell? ⟨b, ps.length, none⟩ = some (ptrV p) := by
  have hc : w.ownsRow base 95 1 (.slice (some ⟨b, 0, none⟩) (ps.length + 1) cap) (ps.length + 1) ((p :: ps).reverse.map ptrV) := h.hcalls
  rw [World.ownsRow.cellAt hc ps.length (by omega), List.reverse_cons, List.map_append, List.getElem?_append_right (by simp)]
  simp
theorem MRest.pop {b cap : Nat} (h : MRest w base codes mem (c :: cs) input out cv mv (.slice (some ⟨b, 0, none⟩) (ps.length + 1) cap) iv ov (p :: ps)) : MRest w base codes mem cs input out cv mv (.slice (some ⟨b, 0, none⟩) ps.length cap) iv ov ps := by
  have hc : w.ownsRow base 95 1 (.slice (some ⟨b, 0, none⟩) (ps.length + 1) cap) (ps.length + 1) ((p :: ps).reverse.map ptrV) := h.hcalls
  rw [List.reverse_cons, List.map_append] at hc
  exact ⟨h.hcodes, h.hmem, ownsRow_pop (by simp) hc, h.hinput, h.hout, h.apart, h.frs.2.2.2⟩
end
set_option maxRecDepth 100000 in
theorem newFr (n : Nat) : (Tryd.zeroCells98).setIfInBounds 0 (.int .i64 (n : Int)) = (frCells ⟨n, 0, List.replicate 120 0⟩).toArray := by kernel_rfl
theorem below_drew1 {w w' : World} {B : Nat} (h : Below B w w') : Below B w w'.drew := h.trans ⟨rfl, rfl, rfl, Nat.le_refl _, fun _ _ => rfl⟩
section
variable {w w4 : World} {base g H : Nat} {codes : List (List Mac)} {mem : List Int} {calls : List Fr} {input out : List Int} {cv mv lv lv' iv ov ov' : Value} {ps : List Nat} {ms : Array Value}
/-- The calls' row has grown by a new call's block. -/
theorem MRest.push (h : Blk w g 102 ms ∧ MRest w base codes mem calls input out cv mv lv iv ov ps) (hg : base ≤ g) (c : Fr) {n : Nat} (hn : n = ps.length)
    (ap : Appended ((w.alloc (.cells (frCells c).toArray 98)).alloc (.cells #[ptrV w.heap.size] 95)).drew base 95 1 lv (n + 1) (ps.reverse.map ptrV ++ [ptrV w.heap.size]) H lv' w4) :
    Blk w4 g 102 ms ∧ MRest w4 base codes mem (c :: calls) input out cv mv lv' iv ov (w.heap.size :: ps) ∧ Below base w w4 := by
  subst hn
  have hz : base ≤ w.heap.size := by have := h.1.lt; omega
  have hW : Below w.heap.size w ((w.alloc (.cells (frCells c).toArray 98)).alloc (.cells #[ptrV w.heap.size] 95)).drew := below_drew1 (((Below.refl _ _).alloc (Nat.le_refl _) _).alloc (by simp) _)
  have hq : Blk ((w.alloc (.cells (frCells c).toArray 98)).alloc (.cells #[ptrV w.heap.size] 95)).drew w.heap.size 98 (frCells c).toArray := (Blk.new w _ _).alloc _
  have h1 := h.1.below hW h.1.lt
  have h2 := h.2.below hz hW
  have hzW : base ≤ ((w.alloc (.cells (frCells c).toArray 98)).alloc (.cells #[ptrV w.heap.size] 95)).drew.heap.size := Nat.le_trans hz hW.size
  have hlt := h.2.frs.lt
  generalize ((w.alloc (.cells (frCells c).toArray 98)).alloc (.cells #[ptrV w.heap.size] 95)).drew = W at *
  refine ⟨ap.blk h2.hcalls h1 (by decide), ⟨h2.hcodes.below ap.below (Nat.le_refl _), ap.row h2.hmem (own_apart2 h2.hmem h2.hcalls (by decide)), ?_, h2.hinput.below ap.below (Nat.le_refl _), ap.row h2.hout (own_apart2 h2.hout h2.hcalls (by decide)), h2.apart, hz, ?_, ap.blk h2.hcalls hq (by decide), ?_⟩, (hW.mono hz).trans ap.below⟩
  · have := ap.own
    rw [List.reverse_cons, List.map_append]
    exact this
  · intro hm
    exact absurd (hlt _ hm) (Nat.lt_irrefl _)
  · exact h2.frs.keep fun p _ l hp => ap.blk h2.hcalls hp (by decide)
/-- The printed numbers' row has grown. -/
theorem MRest.print (h : Blk w g 102 ms ∧ MRest w base codes mem calls input out cv mv lv iv ov ps) (hg : base ≤ g) (x : Int) {n : Nat} (hn : n = out.length)
    (ap : Appended (w.alloc (.cells #[.int .i64 x] 3)).drew base 3 1 ov (n + 1) (intV out ++ [.int .i64 x]) (w.heap.size + 1) ov' w4) :
    Blk w4 g 102 ms ∧ MRest w4 base codes mem calls input (out ++ [x]) cv mv lv iv ov' ps ∧ Below base w w4 := by
  subst hn
  have hz : base ≤ w.heap.size := by have := h.1.lt; omega
  have hW : Below w.heap.size w (w.alloc (.cells #[.int .i64 x] 3)).drew := below_drew1 ((Below.refl _ _).alloc (Nat.le_refl _) _)
  have h1 := h.1.below hW h.1.lt
  have h2 := h.2.below hz hW
  have hml := World.ownsRow.lt h.2.hmem
  generalize (w.alloc (.cells #[.int .i64 x] 3)).drew = W at *
  refine ⟨ap.blk h2.hout h1 (by decide), ⟨h2.hcodes.below ap.below (Nat.le_refl _), ap.row h2.hmem h2.apart, ap.row h2.hcalls (own_apart2 h2.hcalls h2.hout (by decide)), h2.hinput.below ap.below (Nat.le_refl _), ?_, ?_, h2.frs.keep fun p _ l hp => ap.blk h2.hout hp (by decide)⟩, (hW.mono hz).trans ap.below⟩
  · have := ap.own
    rw [List.length_append, show intV (out ++ [x]) = intV out ++ [.int .i64 x] by unfold intV; simp]
    exact this
  · intro k hk
    rcases ap.2.2.2 with e | e
    · rw [e]
      exact h2.apart k hk
    · rw [e]
      have := (hml k hk).2
      simp only [ne_eq, Option.some.injEq]
      omega
end
end Go.Proofs.YtkiaffaieniebaaDoor
