/-
  The program's machine in memory: its block, the calls' blocks, the rows that it owns.
  Conditions: none.
-/
import Derived.Test.YtkiaffaieniebaaDoorRuP
import Derived.Test.YtkiaffaieniebaaDoorRuZ
import Derived.Test.YtkiaffaieniebaaDoorMcZ
import Derived.Laws.OwnMore
namespace Go.Proofs.YtkiaffaieniebaaDoor
open Go.RowKit

def intV (l : List Int) : List Value := l.map (Value.int .i64)
theorem intV_len (l : List Int) : (intV l).length = l.length := List.length_map _
theorem intV_at (l : List Int) (k : Nat) : (intV l)[k]? = l[k]?.map (Value.int .i64) := List.getElem?_map
theorem intV_get (l : List Int) (k : Nat) (h : k < l.length) : (intV l)[k]? = some (.int .i64 (l.getD k 0)) := by
  rw [intV_at, List.getElem?_eq_getElem h, List.getD_eq_getElem?_getD, List.getElem?_eq_getElem h]
  rfl
theorem intV_set (l : List Int) (k : Nat) (n : Int) : intV (l.set k n) = (intV l).set k (.int .i64 n) := List.map_set
theorem intV_one (l : List Int) : ∀ u ∈ intV l, u.oneCell' = true := by
  intro u hu
  obtain ⟨n, _, rfl⟩ := List.mem_map.1 hu
  rfl
/-- The machine's cells. -/
def machCells (cv mv lv iv ov : Value) (s : Mch) : List Value :=
  cv :: (intV s.regs ++ [mv, lv, iv, .int .i64 s.state, .int .i64 s.value, ov, .int .i64 (s.steps : Int), .bool s.over])
def frCells (c : Fr) : List Value := .int .i64 (c.r : Int) :: .int .i64 (c.pc : Int) :: intV c.ws
def ptrV (p : Nat) : Value := .pointer (some ⟨p, 0, none⟩)
section
variable {cv mv lv iv ov : Value} {s : Mch}
theorem mach_reg (h : s.regs.length = 16) {a : Nat} (ha : a < 16) : (machCells cv mv lv iv ov s).toArray[1 + a]? = some (.int .i64 (s.regs.getD a 0)) := by
  unfold machCells
  rw [List.getElem?_toArray, Nat.add_comm, List.getElem?_cons_succ, List.getElem?_append_left (by rw [intV_len]; omega), intV_get _ _ (by omega)]
theorem mach_tail (h : s.regs.length = 16) (j : Nat) : (machCells cv mv lv iv ov s).toArray[17 + j]? = [mv, lv, iv, .int .i64 s.state, .int .i64 s.value, ov, .int .i64 (s.steps : Int), .bool s.over][j]? := by
  unfold machCells
  rw [List.getElem?_toArray, show 17 + j = (16 + j) + 1 by omega, List.getElem?_cons_succ, List.getElem?_append_right (by rw [intV_len]; omega), intV_len, h]
  congr 1
  omega
theorem mach_codes : (machCells cv mv lv iv ov s).toArray[0]? = some cv := rfl
theorem mach_set_reg (d : Nat) (n : Int) (h : s.regs.length = 16) (hd : d < 16) : (machCells cv mv lv iv ov s).toArray.setIfInBounds (1 + d) (.int .i64 n) = (machCells cv mv lv iv ov { s with regs := s.regs.set d n }).toArray := by
  unfold machCells
  rw [List.setIfInBounds_toArray, Nat.add_comm, List.set_cons_succ, List.set_append_left _ _ (by rw [intV_len]; omega), ← intV_set]
theorem mach_set_tail (j : Nat) (u : Value) (h : s.regs.length = 16) : (machCells cv mv lv iv ov s).toArray.setIfInBounds (17 + j) u = (cv :: (intV s.regs ++ [mv, lv, iv, .int .i64 s.state, .int .i64 s.value, ov, .int .i64 (s.steps : Int), .bool s.over].set j u)).toArray := by
  unfold machCells
  rw [List.setIfInBounds_toArray, show 17 + j = (16 + j) + 1 by omega, List.set_cons_succ, List.set_append_right _ _ (by rw [intV_len]; omega), intV_len, h, show 16 + j - 16 = j by omega]
theorem mach_set_mem (x : Value) (h : s.regs.length = 16) : (machCells cv mv lv iv ov s).toArray.setIfInBounds 17 x = (machCells cv x lv iv ov s).toArray := mach_set_tail 0 x h
theorem mach_set_calls (x : Value) (h : s.regs.length = 16) : (machCells cv mv lv iv ov s).toArray.setIfInBounds 18 x = (machCells cv mv x iv ov s).toArray := mach_set_tail 1 x h
theorem mach_set_input (x : Value) (h : s.regs.length = 16) : (machCells cv mv lv iv ov s).toArray.setIfInBounds 19 x = (machCells cv mv lv x ov s).toArray := mach_set_tail 2 x h
theorem mach_set_state (n : Int) (h : s.regs.length = 16) : (machCells cv mv lv iv ov s).toArray.setIfInBounds 20 (.int .i64 n) = (machCells cv mv lv iv ov { s with state := n }).toArray := mach_set_tail 3 _ h
theorem mach_set_value (n : Int) (h : s.regs.length = 16) : (machCells cv mv lv iv ov s).toArray.setIfInBounds 21 (.int .i64 n) = (machCells cv mv lv iv ov { s with value := n }).toArray := mach_set_tail 4 _ h
theorem mach_set_out (x : Value) (h : s.regs.length = 16) : (machCells cv mv lv iv ov s).toArray.setIfInBounds 22 x = (machCells cv mv lv iv x s).toArray := mach_set_tail 5 x h
theorem mach_set_steps (n : Nat) (h : s.regs.length = 16) : (machCells cv mv lv iv ov s).toArray.setIfInBounds 23 (.int .i64 (n : Int)) = (machCells cv mv lv iv ov { s with steps := n }).toArray := mach_set_tail 6 _ h
theorem mach_set_over (b : Bool) (h : s.regs.length = 16) : (machCells cv mv lv iv ov s).toArray.setIfInBounds 24 (.bool b) = (machCells cv mv lv iv ov { s with over := b }).toArray := mach_set_tail 7 _ h
end
/-- The calls under way: a block each. -/
def FrsAt (w : World) (base : Nat) : List Nat → List Fr → Prop
  | [], [] => True
  | p :: ps, c :: cs => base ≤ p ∧ p ∉ ps ∧ Blk w p 98 (frCells c).toArray ∧ FrsAt w base ps cs
  | _, _ => False
theorem FrsAt.len {w : World} {base : Nat} : ∀ {ps : List Nat} {cs : List Fr}, FrsAt w base ps cs → ps.length = cs.length
  | [], [], _ => rfl
  | _ :: _, _ :: _, h => by simp [h.2.2.2.len]
theorem FrsAt.keep {w w' : World} {base : Nat} : ∀ {ps : List Nat} {cs : List Fr}, FrsAt w base ps cs → (∀ p ∈ ps, ∀ l, Blk w p 98 l → Blk w' p 98 l) → FrsAt w' base ps cs
  | [], [], _, _ => trivial
  | p :: _, _ :: _, ⟨h1, h2, h3, h4⟩, hk => ⟨h1, h2, hk p (by simp) _ h3, h4.keep fun q hq => hk q (by simp [hq])⟩
theorem FrsAt.lt {w : World} {base : Nat} : ∀ {ps : List Nat} {cs : List Fr}, FrsAt w base ps cs → ∀ p ∈ ps, p < w.heap.size
  | [], [], _, _, hp => by cases hp
  | _ :: _, _ :: _, ⟨_, _, h3, h4⟩, _, hp => by
    rcases List.mem_cons.1 hp with rfl | hp
    · exact h3.lt
    · exact h4.lt _ hp
theorem FrsAt.below {w w' : World} {base : Nat} {ps : List Nat} {cs : List Fr} (h : FrsAt w base ps cs) (hb : Below w.heap.size w w') : FrsAt w' base ps cs :=
  h.keep fun _ _ _ hp => hp.below hb hp.lt
theorem row_lt {w : World} {base : Nat} {e : TypeId} {size n : Nat} {v : Value} {xs : List Value} (h : w.ownsRow base e size v n xs) {w' : World} (hb : Below w.heap.size w w') : w'.ownsRow base e size v n xs := by
  refine World.ownsRow.kept (row := none) h ⟨hb.os, hb.tape, hb.output, hb.size, fun k hk _ => hb.block k hk⟩ ?_
  cases v.ownBlock <;> simp
/-- A row stands where a block of another element type is written. -/
theorem row_far {w : World} {base : Nat} {e : TypeId} {size n : Nat} {v : Value} {xs : List Value} (h : w.ownsRow base e size v n xs) {g o : Nat} {t : TypeId} {cs : Array Value} (hb : Blk w g t cs) (hne : e ≠ t) (u : Value) : (w.setCell ⟨g, o, none⟩ u).ownsRow base e size v n xs := by
  refine ownsRow_setCell_other h ?_ u
  rcases h.2 with ⟨rfl, _⟩ | ⟨g', cap, cur, rfl, _, hg, _⟩
  · simp [Value.ownBlock]
  · simp only [Value.ownBlock, ne_eq, Option.some.injEq]
    rintro rfl
    unfold Blk at hb
    rw [hg] at hb
    simp only [Option.some.injEq, Obj.cells.injEq] at hb
    exact hne hb.2.1
/-- All but the machine's own block. -/
structure MRest (w : World) (base : Nat) (codes : List (List Mac)) (mem : List Int) (calls : List Fr) (input out : List Int) (cv mv lv iv ov : Value) (ps : List Nat) : Prop where
  hcodes : CodesAt w base cv codes
  hmem : w.ownsRow base 3 1 mv mem.length (intV mem)
  hcalls : w.ownsRow base 95 1 lv ps.length (ps.reverse.map ptrV)
  hinput : IntsAt w base iv input
  hout : w.ownsRow base 3 1 ov out.length (intV out)
  apart : ∀ k, mv.ownBlock = some k → ov.ownBlock ≠ some k
  frs : FrsAt w base ps calls
theorem MRest.below {w w' : World} {base : Nat} {codes : List (List Mac)} {mem : List Int} {calls : List Fr} {input out : List Int} {cv mv lv iv ov : Value} {ps : List Nat} (h : MRest w base codes mem calls input out cv mv lv iv ov ps) (hz : base ≤ w.heap.size) (hb : Below w.heap.size w w') : MRest w' base codes mem calls input out cv mv lv iv ov ps :=
  ⟨h.hcodes.below hb hz, row_lt h.hmem hb, row_lt h.hcalls hb, h.hinput.below hb hz, row_lt h.hout hb, h.apart, h.frs.below hb⟩
theorem MRest.setg {w : World} {base : Nat} {codes : List (List Mac)} {mem : List Int} {calls : List Fr} {input out : List Int} {cv mv lv iv ov : Value} {ps : List Nat} (h : MRest w base codes mem calls input out cv mv lv iv ov ps) {g o : Nat} {cs : Array Value} (hb : Blk w g 102 cs) (hg : base ≤ g) (u : Value) :
    MRest (w.setCell ⟨g, o, none⟩ u) base codes mem calls input out cv mv lv iv ov ps := by
  have hw : Below base w (w.setCell ⟨g, o, none⟩ u) := (Below.refl base w).setCell hg u
  refine ⟨h.hcodes.below hw (Nat.le_refl _), row_far h.hmem hb (by decide) u, row_far h.hcalls hb (by decide) u, h.hinput.below hw (Nat.le_refl _), row_far h.hout hb (by decide) u, h.apart, h.frs.keep fun p _ l hp => hp.far ?_ u⟩
  rintro rfl
  unfold Blk at hb hp
  rw [hb] at hp
  simp at hp
/-- The machine in block g is in the state s. -/
def MachIs (w : World) (base g : Nat) (codes : List (List Mac)) (s : Mch) : Prop :=
  base ≤ g ∧ ∃ cv mv lv iv ov ps, Blk w g 102 (machCells cv mv lv iv ov s).toArray ∧ MRest w base codes s.mem s.calls s.input s.out cv mv lv iv ov ps
theorem MachIs.below {w w' : World} {base g : Nat} {codes : List (List Mac)} {s : Mch} (h : MachIs w base g codes s) (hb : Below w.heap.size w w') : MachIs w' base g codes s := by
  obtain ⟨hg, cv, mv, lv, iv, ov, ps, h1, h2⟩ := h
  exact ⟨hg, cv, mv, lv, iv, ov, ps, h1.below hb h1.lt, h2.below (by have := h1.lt; omega) hb⟩
/-- A store into the machine's block. -/
theorem mset {w : World} {base g : Nat} {codes : List (List Mac)} {s s' : Mch} {mem : List Int} {calls : List Fr} {input out : List Int} {cv mv lv iv ov cv' mv' lv' iv' ov' cx mx lx ix ox : Value} {ps : List Nat} {o : Nat} {u : Value}
    (h : Blk w g 102 (machCells cv mv lv iv ov s).toArray ∧ MRest w base codes mem calls input out cx mx lx ix ox ps) (hg : base ≤ g) (he : (machCells cv mv lv iv ov s).toArray.setIfInBounds o u = (machCells cv' mv' lv' iv' ov' s').toArray) :
    Blk (w.setCell ⟨g, o, none⟩ u) g 102 (machCells cv' mv' lv' iv' ov' s').toArray ∧ MRest (w.setCell ⟨g, o, none⟩ u) base codes mem calls input out cx mx lx ix ox ps :=
  ⟨he ▸ h.1.set_ o u, h.2.setg h.1 hg u⟩
/-- What a method of the machine comes to. -/
def MachPost (w : World) (base g : Nat) (codes : List (List Mac)) (s : Mch) (v : Value) (e : Ending) (w' : World) : Prop := e = .returned v ∧ MachIs w' base g codes s ∧ Below base w w'
end Go.Proofs.YtkiaffaieniebaaDoor
