/-
  Several texts in one (RuA RuC): what each proves stands at its theorems.
  Conditions: as the theorems say.
-/
import Derived.Test.YtkiaffaieniebaaDoorRuG
import Derived.Test.YtkiaffaieniebaaDoorRuZ
import Derived.Test.YtkiaffaieniebaaDoorMcZ
import Derived.Laws.OwnMore
import Derived.KernelRfl
namespace Go.Proofs.YtkiaffaieniebaaDoor
open Go.RowKit

def intV (l : List Int) : List Value := l.map (Value.int .i64)
theorem intV_len (l : List Int) : (intV l).length = l.length := List.length_map _
theorem intV_at (l : List Int) (k : Nat) : (intV l)[k]? = l[k]?.map (Value.int .i64) := List.getElem?_map
theorem intV_get (l : List Int) (k : Nat) (h : k < l.length) : (intV l)[k]? = some (.int .i64 (l.getD k 0)) := by
  rw [intV_at, List.getElem?_eq_getElem h, List.getD_eq_getElem?_getD, List.getElem?_eq_getElem h]
  rfl
theorem intV_set (l : List Int) (k : Nat) (n : Int) : intV (l.set k n) = (intV l).set k (.int .i64 n) := List.map_set
theorem intV_one (l : List Int) : ∀ u ∈ intV l, u.oneCell' = true := by
  intro u hu
  obtain ⟨n, _, rfl⟩ := List.mem_map.1 hu
  rfl
/-- The machine's cells. -/
def machCells (cv mv lv iv ov : Value) (s : Mch) : List Value :=
  cv :: (intV s.regs ++ [mv, lv, iv, .int .i64 s.state, .int .i64 s.value, ov, .int .i64 (s.steps : Int), .bool s.over])
def frCells (c : Fr) : List Value := .int .i64 (c.r : Int) :: .int .i64 (c.pc : Int) :: intV c.ws
def ptrV (p : Nat) : Value := .pointer (some ⟨p, 0, none⟩)
section
variable {cv mv lv iv ov : Value} {s : Mch}
theorem mach_reg (h : s.regs.length = 16) {a : Nat} (ha : a < 16) : (machCells cv mv lv iv ov s).toArray[1 + a]? = some (.int .i64 (s.regs.getD a 0)) := by
  unfold machCells
  rw [List.getElem?_toArray, Nat.add_comm, List.getElem?_cons_succ, List.getElem?_append_left (by rw [intV_len]; omega), intV_get _ _ (by omega)]
theorem mach_tail (h : s.regs.length = 16) (j : Nat) : (machCells cv mv lv iv ov s).toArray[17 + j]? = [mv, lv, iv, .int .i64 s.state, .int .i64 s.value, ov, .int .i64 (s.steps : Int), .bool s.over][j]? := by
  unfold machCells
  rw [List.getElem?_toArray, show 17 + j = (16 + j) + 1 by omega, List.getElem?_cons_succ, List.getElem?_append_right (by rw [intV_len]; omega), intV_len, h]
  congr 1
  omega
theorem mach_codes : (machCells cv mv lv iv ov s).toArray[0]? = some cv := rfl
theorem mach_set_reg (d : Nat) (n : Int) (h : s.regs.length = 16) (hd : d < 16) : (machCells cv mv lv iv ov s).toArray.setIfInBounds (1 + d) (.int .i64 n) = (machCells cv mv lv iv ov { s with regs := s.regs.set d n }).toArray := by
  unfold machCells
  rw [List.setIfInBounds_toArray, Nat.add_comm, List.set_cons_succ, List.set_append_left _ _ (by rw [intV_len]; omega), ← intV_set]
theorem mach_set_tail (j : Nat) (u : Value) (h : s.regs.length = 16) : (machCells cv mv lv iv ov s).toArray.setIfInBounds (17 + j) u = (cv :: (intV s.regs ++ [mv, lv, iv, .int .i64 s.state, .int .i64 s.value, ov, .int .i64 (s.steps : Int), .bool s.over].set j u)).toArray := by
  unfold machCells
  rw [List.setIfInBounds_toArray, show 17 + j = (16 + j) + 1 by omega, List.set_cons_succ, List.set_append_right _ _ (by rw [intV_len]; omega), intV_len, h, show 16 + j - 16 = j by omega]
theorem mach_set_mem (x : Value) (h : s.regs.length = 16) : (machCells cv mv lv iv ov s).toArray.setIfInBounds 17 x = (machCells cv x lv iv ov s).toArray := mach_set_tail 0 x h
theorem mach_set_calls (x : Value) (h : s.regs.length = 16) : (machCells cv mv lv iv ov s).toArray.setIfInBounds 18 x = (machCells cv mv x iv ov s).toArray := mach_set_tail 1 x h
theorem mach_set_input (x : Value) (h : s.regs.length = 16) : (machCells cv mv lv iv ov s).toArray.setIfInBounds 19 x = (machCells cv mv lv x ov s).toArray := mach_set_tail 2 x h
theorem mach_set_state (n : Int) (h : s.regs.length = 16) : (machCells cv mv lv iv ov s).toArray.setIfInBounds 20 (.int .i64 n) = (machCells cv mv lv iv ov { s with state := n }).toArray := mach_set_tail 3 _ h
theorem mach_set_value (n : Int) (h : s.regs.length = 16) : (machCells cv mv lv iv ov s).toArray.setIfInBounds 21 (.int .i64 n) = (machCells cv mv lv iv ov { s with value := n }).toArray := mach_set_tail 4 _ h
theorem mach_set_out (x : Value) (h : s.regs.length = 16) : (machCells cv mv lv iv ov s).toArray.setIfInBounds 22 x = (machCells cv mv lv iv x s).toArray := mach_set_tail 5 x h
theorem mach_set_steps (n : Nat) (h : s.regs.length = 16) : (machCells cv mv lv iv ov s).toArray.setIfInBounds 23 (.int .i64 (n : Int)) = (machCells cv mv lv iv ov { s with steps := n }).toArray := mach_set_tail 6 _ h
theorem mach_set_over (b : Bool) (h : s.regs.length = 16) : (machCells cv mv lv iv ov s).toArray.setIfInBounds 24 (.bool b) = (machCells cv mv lv iv ov { s with over := b }).toArray := mach_set_tail 7 _ h
end
/-- The calls under way: a block each. -/
def FrsAt (w : World) (base : Nat) : List Nat → List Fr → Prop
  | [], [] => True
  | p :: ps, c :: cs => base ≤ p ∧ p ∉ ps ∧ Blk w p 98 (frCells c).toArray ∧ FrsAt w base ps cs
  | _, _ => False
theorem FrsAt.len {w : World} {base : Nat} : ∀ {ps : List Nat} {cs : List Fr}, FrsAt w base ps cs → ps.length = cs.length
  | [], [], _ => rfl
  | _ :: _, _ :: _, h => by simp [h.2.2.2.len]
theorem FrsAt.keep {w w' : World} {base : Nat} : ∀ {ps : List Nat} {cs : List Fr}, FrsAt w base ps cs → (∀ p ∈ ps, ∀ l, Blk w p 98 l → Blk w' p 98 l) → FrsAt w' base ps cs
  | [], [], _, _ => trivial
  | p :: _, _ :: _, ⟨h1, h2, h3, h4⟩, hk => ⟨h1, h2, hk p (by simp) _ h3, h4.keep fun q hq => hk q (by simp [hq])⟩
theorem FrsAt.lt {w : World} {base : Nat} : ∀ {ps : List Nat} {cs : List Fr}, FrsAt w base ps cs → ∀ p ∈ ps, p < w.heap.size
  | [], [], _, _, hp => by cases hp
  | _ :: _, _ :: _, ⟨_, _, h3, h4⟩, _, hp => by
    rcases List.mem_cons.1 hp with rfl | hp
    · exact h3.lt
    · exact h4.lt _ hp
theorem FrsAt.below {w w' : World} {base : Nat} {ps : List Nat} {cs : List Fr} (h : FrsAt w base ps cs) (hb : Below w.heap.size w w') : FrsAt w' base ps cs :=
  h.keep fun _ _ _ hp => hp.below hb hp.lt
theorem row_lt {w : World} {base : Nat} {e : TypeId} {size n : Nat} {v : Value} {xs : List Value} (h : w.ownsRow base e size v n xs) {w' : World} (hb : Below w.heap.size w w') : w'.ownsRow base e size v n xs := by
  refine World.ownsRow.kept (row := none) h ⟨hb.os, hb.tape, hb.output, hb.size, fun k hk _ => hb.block k hk⟩ ?_
  cases v.ownBlock <;> simp
/-- A row stands where a block of another element type is written. -/
theorem row_far {w : World} {base : Nat} {e : TypeId} {size n : Nat} {v : Value} {xs : List Value} (h : w.ownsRow base e size v n xs) {g o : Nat} {t : TypeId} {cs : Array Value} (hb : Blk w g t cs) (hne : e ≠ t) (u : Value) : (w.setCell ⟨g, o, none⟩ u).ownsRow base e size v n xs := by
  refine ownsRow_setCell_other h ?_ u
  rcases h.2 with ⟨rfl, _⟩ | ⟨g', cap, cur, rfl, _, hg, _⟩
  · simp [Value.ownBlock]
  · simp only [Value.ownBlock, ne_eq, Option.some.injEq]
    rintro rfl
    unfold Blk at hb
    rw [hg] at hb
    simp only [Option.some.injEq, Obj.cells.injEq] at hb
    exact hne hb.2.1
/-- All but the machine's own block. -/
structure MRest (w : World) (base : Nat) (codes : List (List Mac)) (mem : List Int) (calls : List Fr) (input out : List Int) (cv mv lv iv ov : Value) (ps : List Nat) : Prop where
  hcodes : CodesAt w base cv codes
  hmem : w.ownsRow base 3 1 mv mem.length (intV mem)
  hcalls : w.ownsRow base 95 1 lv ps.length (ps.reverse.map ptrV)
  hinput : IntsAt w base iv input
  hout : w.ownsRow base 3 1 ov out.length (intV out)
  apart : ∀ k, mv.ownBlock = some k → ov.ownBlock ≠ some k
  frs : FrsAt w base ps calls
theorem MRest.below {w w' : World} {base : Nat} {codes : List (List Mac)} {mem : List Int} {calls : List Fr} {input out : List Int} {cv mv lv iv ov : Value} {ps : List Nat} (h : MRest w base codes mem calls input out cv mv lv iv ov ps) (hz : base ≤ w.heap.size) (hb : Below w.heap.size w w') : MRest w' base codes mem calls input out cv mv lv iv ov ps :=
  ⟨h.hcodes.below hb hz, row_lt h.hmem hb, row_lt h.hcalls hb, h.hinput.below hb hz, row_lt h.hout hb, h.apart, h.frs.below hb⟩
theorem MRest.setg {w : World} {base : Nat} {codes : List (List Mac)} {mem : List Int} {calls : List Fr} {input out : List Int} {cv mv lv iv ov : Value} {ps : List Nat} (h : MRest w base codes mem calls input out cv mv lv iv ov ps) {g o : Nat} {cs : Array Value} (hb : Blk w g 102 cs) (hg : base ≤ g) (u : Value) :
    MRest (w.setCell ⟨g, o, none⟩ u) base codes mem calls input out cv mv lv iv ov ps := by
  have hw : Below base w (w.setCell ⟨g, o, none⟩ u) := (Below.refl base w).setCell hg u
  refine ⟨h.hcodes.below hw (Nat.le_refl _), row_far h.hmem hb (by decide) u, row_far h.hcalls hb (by decide) u, h.hinput.below hw (Nat.le_refl _), row_far h.hout hb (by decide) u, h.apart, h.frs.keep fun p _ l hp => hp.far ?_ u⟩
  rintro rfl
  unfold Blk at hb hp
  rw [hb] at hp
  simp at hp
/-- The machine in block g is in the state s. -/
def MachIs (w : World) (base g : Nat) (codes : List (List Mac)) (s : Mch) : Prop :=
  base ≤ g ∧ ∃ cv mv lv iv ov ps, Blk w g 102 (machCells cv mv lv iv ov s).toArray ∧ MRest w base codes s.mem s.calls s.input s.out cv mv lv iv ov ps
theorem MachIs.below {w w' : World} {base g : Nat} {codes : List (List Mac)} {s : Mch} (h : MachIs w base g codes s) (hb : Below w.heap.size w w') : MachIs w' base g codes s := by
  obtain ⟨hg, cv, mv, lv, iv, ov, ps, h1, h2⟩ := h
  exact ⟨hg, cv, mv, lv, iv, ov, ps, h1.below hb h1.lt, h2.below (by have := h1.lt; omega) hb⟩
/-- A store into the machine's block. -/
theorem mset {w : World} {base g : Nat} {codes : List (List Mac)} {s s' : Mch} {mem : List Int} {calls : List Fr} {input out : List Int} {cv mv lv iv ov cv' mv' lv' iv' ov' cx mx lx ix ox : Value} {ps : List Nat} {o : Nat} {u : Value}
    (h : Blk w g 102 (machCells cv mv lv iv ov s).toArray ∧ MRest w base codes mem calls input out cx mx lx ix ox ps) (hg : base ≤ g) (he : (machCells cv mv lv iv ov s).toArray.setIfInBounds o u = (machCells cv' mv' lv' iv' ov' s').toArray) :
    Blk (w.setCell ⟨g, o, none⟩ u) g 102 (machCells cv' mv' lv' iv' ov' s').toArray ∧ MRest (w.setCell ⟨g, o, none⟩ u) base codes mem calls input out cx mx lx ix ox ps :=
  ⟨he ▸ h.1.set_ o u, h.2.setg h.1 hg u⟩
/-- What a method of the machine comes to. -/
def MachPost (w : World) (base g : Nat) (codes : List (List Mac)) (s : Mch) (v : Value) (e : Ending) (w' : World) : Prop := e = .returned v ∧ MachIs w' base g codes s ∧ Below base w w'
end Go.Proofs.YtkiaffaieniebaaDoor
namespace Go.Proofs.YtkiaffaieniebaaDoor
open Go.RowKit

theorem fr_r (c : Fr) : (frCells c).toArray[0]? = some (.int .i64 (c.r : Int)) := rfl
theorem fr_pc (c : Fr) : (frCells c).toArray[1]? = some (.int .i64 (c.pc : Int)) := rfl
theorem fr_ws (c : Fr) {k : Nat} (h : k < c.ws.length) : (frCells c).toArray[2 + k]? = some (.int .i64 (c.ws.getD k 0)) := by
  unfold frCells
  rw [List.getElem?_toArray, show 2 + k = (k + 1) + 1 by omega, List.getElem?_cons_succ, List.getElem?_cons_succ, intV_get _ _ h]
theorem fr_set_pc (c : Fr) (n : Nat) : (frCells c).toArray.setIfInBounds 1 (.int .i64 (n : Int)) = (frCells { c with pc := n }).toArray := by
  unfold frCells
  rw [List.setIfInBounds_toArray, List.set_cons_succ, List.set_cons_zero]
theorem fr_set_ws (c : Fr) (k : Nat) (n : Int) : (frCells c).toArray.setIfInBounds (2 + k) (.int .i64 n) = (frCells { c with ws := c.ws.set k n }).toArray := by
  unfold frCells
  rw [List.setIfInBounds_toArray, show 2 + k = (k + 1) + 1 by omega, List.set_cons_succ, List.set_cons_succ, ← intV_set]
theorem Blk.types {w : World} {g g' : Nat} {t t' : TypeId} {cs cs' : Array Value} (h : Blk w g t cs) (h' : Blk w g' t' cs') (hne : t ≠ t') : g ≠ g' := by
  rintro rfl
  unfold Blk at h h'
  rw [h] at h'
  simp only [Option.some.injEq, Obj.cells.injEq] at h'
  exact hne h'.2.1
/-- The block of a row that is not nil. -/
theorem row_blk {w : World} {base : Nat} {e : TypeId} {size n b cap : Nat} {xs : List Value} (h : w.ownsRow base e size (.slice (some ⟨b, 0, none⟩) n cap) n xs) : base ≤ b ∧ ∃ cur, Blk w b e cur := by
  rcases h.2 with ⟨h', _⟩ | ⟨g', cap', cur', h', hb, hg, _⟩
  · simp at h'
  · simp only [Value.slice.injEq, Option.some.injEq, Addr.mk.injEq, and_true, true_and] at h'
    obtain ⟨rfl, rfl⟩ := h'
    exact ⟨hb, _, hg⟩
theorem row_some {w : World} {base : Nat} {e : TypeId} {size n : Nat} {v : Value} {xs : List Value} (h : w.ownsRow base e size v n xs) (hn : 0 < n) : ∃ b cap, v = .slice (some ⟨b, 0, none⟩) n cap ∧ n ≤ cap ∧ cap ≤ 9223372036854775807 := by
  rcases h.2 with ⟨_, h0⟩ | ⟨g, cap, cur, rfl, _, _, h1, h2, _⟩
  · omega
  · exact ⟨g, cap, rfl, h1, by unfold maxLen at h2; omega⟩
section
variable {w : World} {base g : Nat} {codes : List (List Mac)} {mem : List Int} {c : Fr} {calls cs : List Fr} {input out : List Int} {cv mv lv iv ov : Value} {p : Nat} {ps : List Nat} {ms : Array Value}
theorem MRest.top (h : MRest w base codes mem (c :: cs) input out cv mv lv iv ov (p :: ps)) : base ≤ p ∧ Blk w p 98 (frCells c).toArray := ⟨h.frs.1, h.frs.2.2.1⟩
theorem MRest.setp (h : MRest w base codes mem (c :: cs) input out cv mv lv iv ov (p :: ps)) (hg : Blk w g 102 ms) (c' : Fr) {o : Nat} {u : Value} (he : (frCells c).toArray.setIfInBounds o u = (frCells c').toArray) :
    Blk (w.setCell ⟨p, o, none⟩ u) g 102 ms ∧ MRest (w.setCell ⟨p, o, none⟩ u) base codes mem (c' :: cs) input out cv mv lv iv ov (p :: ps) := by
  obtain ⟨hp, hpb⟩ := h.top
  have hw : Below base w (w.setCell ⟨p, o, none⟩ u) := (Below.refl base w).setCell hp u
  refine ⟨hg.far (hg.types hpb (by decide)) u, h.hcodes.below hw (Nat.le_refl _), row_far h.hmem hpb (by decide) u, row_far h.hcalls hpb (by decide) u, h.hinput.below hw (Nat.le_refl _), row_far h.hout hpb (by decide) u, h.apart, hp, h.frs.2.1, ?_, ?_⟩
  · rw [← he]
    exact hpb.set_ o u
  · refine h.frs.2.2.2.keep fun q hq l hl => hl.far ?_ u
    rintro rfl
    exact h.frs.2.1 hq
theorem MRest.setmem {b cap k : Nat} (h : MRest w base codes mem calls input out cv (.slice (some ⟨b, 0, none⟩) mem.length cap) lv iv ov ps) (hg : Blk w g 102 ms) (n : Int) :
    Blk (w.setCell ⟨b, k, none⟩ (.int .i64 n)) g 102 ms ∧ MRest (w.setCell ⟨b, k, none⟩ (.int .i64 n)) base codes (mem.set k n) calls input out cv (.slice (some ⟨b, 0, none⟩) mem.length cap) lv iv ov ps := by
  obtain ⟨hb, cur, hbb⟩ := row_blk h.hmem
  have hw : Below base w (w.setCell ⟨b, k, none⟩ (.int .i64 n)) := (Below.refl base w).setCell hb _
  have hs := (World.ownsRow.stored h.hmem k (.int .i64 n)).1
  rw [← intV_set] at hs
  refine ⟨hg.far (hg.types hbb (by decide)) _, h.hcodes.below hw (Nat.le_refl _), by rw [List.length_set]; exact hs, row_far h.hcalls hbb (by decide) _, h.hinput.below hw (Nat.le_refl _), ownsRow_setCell_other h.hout ?_ _, h.apart, h.frs.keep fun q hq l hl => hl.far (hl.types hbb (by decide)) _⟩
  exact h.apart b rfl
theorem mem_cell {b cap k : Nat} (h : MRest w base codes mem calls input out cv (.slice (some ⟨b, 0, none⟩) mem.length cap) lv iv ov ps) (hk : k < mem.length) : w.cell? ⟨b, k, none⟩ = some (.int .i64 (mem.getD k 0)) ∧ w.frozen? ⟨b, k, none⟩ = false := by
  refine ⟨?_, World.ownsRow.frozenAt h.hmem k⟩
  rw [World.ownsRow.cellAt h.hmem k (by omega), intV_get _ _ hk]
/-- The cell of the calls' row that leads to the newest. -/
theorem top_cell {b cap : Nat} (h : MRest w base codes mem calls input out cv mv (.slice (some ⟨b, 0, none⟩) (ps.length + 1) cap) iv ov (p :: ps)) : w.cell? ⟨b, ps.length, none⟩ = some (ptrV p) := by
  have hc : w.ownsRow base 95 1 (.slice (some ⟨b, 0, none⟩) (ps.length + 1) cap) (ps.length + 1) ((p :: ps).reverse.map ptrV) := h.hcalls
  rw [World.ownsRow.cellAt hc ps.length (by omega), List.reverse_cons, List.map_append, List.getElem?_append_right (by simp)]
  simp
theorem MRest.pop {b cap : Nat} (h : MRest w base codes mem (c :: cs) input out cv mv (.slice (some ⟨b, 0, none⟩) (ps.length + 1) cap) iv ov (p :: ps)) : MRest w base codes mem cs input out cv mv (.slice (some ⟨b, 0, none⟩) ps.length cap) iv ov ps := by
  have hc : w.ownsRow base 95 1 (.slice (some ⟨b, 0, none⟩) (ps.length + 1) cap) (ps.length + 1) ((p :: ps).reverse.map ptrV) := h.hcalls
  rw [List.reverse_cons, List.map_append] at hc
  exact ⟨h.hcodes, h.hmem, ownsRow_pop (by simp) hc, h.hinput, h.hout, h.apart, h.frs.2.2.2⟩
end
set_option maxRecDepth 100000 in
theorem newFr (n : Nat) : (Tryd.zeroCells98).setIfInBounds 0 (.int .i64 (n : Int)) = (frCells ⟨n, 0, List.replicate 120 0⟩).toArray := by kernel_rfl
theorem below_drew1 {w w' : World} {B : Nat} (h : Below B w w') : Below B w w'.drew := h.trans ⟨rfl, rfl, rfl, Nat.le_refl _, fun _ _ => rfl⟩
section
variable {w w4 : World} {base g H : Nat} {codes : List (List Mac)} {mem : List Int} {calls : List Fr} {input out : List Int} {cv mv lv lv' iv ov ov' : Value} {ps : List Nat} {ms : Array Value}
/-- The calls' row has grown by a new call's block. -/
theorem MRest.push (h : Blk w g 102 ms ∧ MRest w base codes mem calls input out cv mv lv iv ov ps) (hg : base ≤ g) (c : Fr) {n : Nat} (hn : n = ps.length)
    (ap : Appended ((w.alloc (.cells (frCells c).toArray 98)).alloc (.cells #[ptrV w.heap.size] 95)).drew base 95 1 lv (n + 1) (ps.reverse.map ptrV ++ [ptrV w.heap.size]) H lv' w4) :
    Blk w4 g 102 ms ∧ MRest w4 base codes mem (c :: calls) input out cv mv lv' iv ov (w.heap.size :: ps) ∧ Below base w w4 := by
  subst hn
  have hz : base ≤ w.heap.size := by have := h.1.lt; omega
  have hW : Below w.heap.size w ((w.alloc (.cells (frCells c).toArray 98)).alloc (.cells #[ptrV w.heap.size] 95)).drew := below_drew1 (((Below.refl _ _).alloc (Nat.le_refl _) _).alloc (by simp) _)
  have hq : Blk ((w.alloc (.cells (frCells c).toArray 98)).alloc (.cells #[ptrV w.heap.size] 95)).drew w.heap.size 98 (frCells c).toArray := (Blk.new w _ _).alloc _
  have h1 := h.1.below hW h.1.lt
  have h2 := h.2.below hz hW
  have hzW : base ≤ ((w.alloc (.cells (frCells c).toArray 98)).alloc (.cells #[ptrV w.heap.size] 95)).drew.heap.size := Nat.le_trans hz hW.size
  have hlt := h.2.frs.lt
  generalize ((w.alloc (.cells (frCells c).toArray 98)).alloc (.cells #[ptrV w.heap.size] 95)).drew = W at *
  refine ⟨ap.blk h2.hcalls h1 (by decide), ⟨h2.hcodes.below ap.below (Nat.le_refl _), ap.row h2.hmem (own_apart2 h2.hmem h2.hcalls (by decide)), ?_, h2.hinput.below ap.below (Nat.le_refl _), ap.row h2.hout (own_apart2 h2.hout h2.hcalls (by decide)), h2.apart, hz, ?_, ap.blk h2.hcalls hq (by decide), ?_⟩, (hW.mono hz).trans ap.below⟩
  · have := ap.own
    rw [List.reverse_cons, List.map_append]
    exact this
  · intro hm
    exact absurd (hlt _ hm) (Nat.lt_irrefl _)
  · exact h2.frs.keep fun p _ l hp => ap.blk h2.hcalls hp (by decide)
/-- The printed numbers' row has grown. -/
theorem MRest.print (h : Blk w g 102 ms ∧ MRest w base codes mem calls input out cv mv lv iv ov ps) (hg : base ≤ g) (x : Int) {n : Nat} (hn : n = out.length)
    (ap : Appended (w.alloc (.cells #[.int .i64 x] 3)).drew base 3 1 ov (n + 1) (intV out ++ [.int .i64 x]) (w.heap.size + 1) ov' w4) :
    Blk w4 g 102 ms ∧ MRest w4 base codes mem calls input (out ++ [x]) cv mv lv iv ov' ps ∧ Below base w w4 := by
  subst hn
  have hz : base ≤ w.heap.size := by have := h.1.lt; omega
  have hW : Below w.heap.size w (w.alloc (.cells #[.int .i64 x] 3)).drew := below_drew1 ((Below.refl _ _).alloc (Nat.le_refl _) _)
  have h1 := h.1.below hW h.1.lt
  have h2 := h.2.below hz hW
  have hml := World.ownsRow.lt h.2.hmem
  generalize (w.alloc (.cells #[.int .i64 x] 3)).drew = W at *
  refine ⟨ap.blk h2.hout h1 (by decide), ⟨h2.hcodes.below ap.below (Nat.le_refl _), ap.row h2.hmem h2.apart, ap.row h2.hcalls (own_apart2 h2.hcalls h2.hout (by decide)), h2.hinput.below ap.below (Nat.le_refl _), ?_, ?_, h2.frs.keep fun p _ l hp => ap.blk h2.hout hp (by decide)⟩, (hW.mono hz).trans ap.below⟩
  · have := ap.own
    rw [List.length_append, show intV (out ++ [x]) = intV out ++ [.int .i64 x] by unfold intV; simp]
    exact this
  · intro k hk
    rcases ap.2.2.2 with e | e
    · rw [e]
      exact h2.apart k hk
    · rw [e]
      have := (hml k hk).2
      simp only [ne_eq, Option.some.injEq]
      omega
end
end Go.Proofs.YtkiaffaieniebaaDoor
