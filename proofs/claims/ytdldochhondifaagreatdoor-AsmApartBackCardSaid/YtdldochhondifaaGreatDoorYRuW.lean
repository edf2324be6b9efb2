/-
  Texts of the claim AsmApartBack (RuG RuC RuD RuE RuJ RdQ RuK RuN RuW): what each proves stands at its theorems.
  Conditions: as the theorems say.
-/
import Derived.Laws.Bits128
import Derived.Laws.OwnMore
import Derived.KernelRfl
import Derived.RegionTactic
import Derived.BigRegion
import Derived.Deep.QuietTactic
import Derived.BigQuiet
import Derived.Deep.RegionHeld3
import Derived.Deep.RegionLaw
import Derived.Deep.DrawnRows
import Derived.StillTailTactics
import Derived.Test.YtdldochhondifaaGreatDoorYMacC
import Derived.Test.YtdldochhondifaaGreatDoorYLey
import Derived.Test.YtdldochhondifaaGreatDoorYMcZ
import Derived.Test.YtdldochhondifaaGreatDoorYRdP
import Derived.Test.YtdldochhondifaaGreatDoorYKtC
namespace Go.Proofs.YtdldochhondifaaGreatDoor
open Go.RowKit

/-- A call under way: the routine, where it goes on, its words. -/
structure Fr where
  r : Nat
  pc : Nat
  ws : List Int
/-- The machine: its calls under way, the newest first. -/
structure Mch where
  regs : List Int
  mem : List Int
  calls : List Fr
  input : List Int
  out : List Int
  steps : Nat
  state : Int
  value : Int
  over : Bool

def Mch.set (s : Mch) (d n : Int) : Mch := { s with regs := s.regs.set d.toNat n }
def Fr.next (c : Fr) : Fr := { c with pc := c.pc + 1 }
def Mch.pos (s : Mch) : Nat × Nat := match s.calls with
  | [] => (0, 0)
  | c :: _ => (c.r, c.pc)
/-- An instruction of a list of so many, which calls one of so many routines. -/
structure GoodM (m : Mac) (len rts : Nat) : Prop where
  op1 : 1 ≤ m.op
  op2 : m.op ≤ 47
  d1 : 0 ≤ m.dst
  d2 : m.dst < 16
  a1 : 0 ≤ m.a
  a2 : m.a < 16
  b1 : 0 ≤ m.b
  b2 : m.b < 16
  w : m.op = 35 ∨ m.op = 36 → 0 ≤ m.n ∧ m.n < 120
  t : 37 ≤ m.op ∧ m.op ≤ 43 → 0 ≤ m.n ∧ m.n < (len : Int)
  r : m.op = 44 → 0 ≤ m.n ∧ m.n < (rts : Int)
structure GoodL (ms : List Mac) (rts : Nat) : Prop where
  many : ms.length ≤ 5000
  all : ∀ (j : Nat) (m : Mac), ms[j]? = some m → GoodM m ms.length rts
  last : ∃ m, ms[ms.length - 1]? = some m ∧ (m.op = 37 ∨ m.op = 45)
def GoodF (codes : List (List Mac)) (c : Fr) : Prop := ∃ ms, codes[c.r]? = some ms ∧ c.pc < ms.length ∧ c.ws.length = 120
structure GoodS (codes : List (List Mac)) (s : Mch) : Prop where
  regs : s.regs.length = 16
  out : s.out.length ≤ 200
  calls : s.calls.length ≤ 30
  frs : ∀ c ∈ s.calls, GoodF codes c
  some : s.over = false → s.calls ≠ []
  mem : s.mem.length ≤ 200
  input : s.input.length ≤ 30

theorem GoodL.pos {ms : List Mac} {n : Nat} (h : GoodL ms n) : 0 < ms.length := by
  obtain ⟨m, hm, _⟩ := h.last
  have := (List.getElem?_eq_some_iff.1 hm).1
  omega
/-- What a step keeps beside the calls. -/
structure GoodB (s : Mch) : Prop where
  regs : s.regs.length = 16
  out : s.out.length ≤ 200
  mem : s.mem.length ≤ 200
  input : s.input.length ≤ 30
theorem GoodS.base {codes : List (List Mac)} {s : Mch} (h : GoodS codes s) : GoodB s := ⟨h.regs, h.out, h.mem, h.input⟩
theorem GoodB.set {s : Mch} (h : GoodB s) (d n : Int) : GoodB (s.set d n) := ⟨by simp [Mch.set, h.regs], h.out, h.mem, h.input⟩
end Go.Proofs.YtdldochhondifaaGreatDoor
namespace Go.Proofs.YtdldochhondifaaGreatDoor
open Go.RowKit

end Go.Proofs.YtdldochhondifaaGreatDoor
namespace Go.Proofs.YtdldochhondifaaGreatDoor
open Go.RowKit

def intV (l : List Int) : List Value := l.map (Value.int .i64)
/-- The machine's cells. -/
def machCells (cv mv lv iv ov : Value) (s : Mch) : List Value :=
  cv :: (intV s.regs ++ [mv, lv, iv, .int .i64 s.state, .int .i64 s.value, ov, .int .i64 (s.steps : Int), .bool s.over])
def frCells (c : Fr) : List Value := .int .i64 (c.r : Int) :: .int .i64 (c.pc : Int) :: intV c.ws
def ptrV (p : Nat) : Value := .pointer (some ⟨p, 0, none⟩)
/-- The calls under way: a block each. -/
def FrsAt (w : World) (base : Nat) : List Nat → List Fr → Prop
  | [], [] => True
  | p :: ps, c :: cs => base ≤ p ∧ p ∉ ps ∧ Blk w p 193 (frCells c).toArray ∧ FrsAt w base ps cs
  | _, _ => False
theorem FrsAt.len {w : World} {base : Nat} : ∀ {ps : List Nat} {cs : List Fr}, FrsAt w base ps cs → ps.length = cs.length
  | [], [], _ => rfl
  | _ :: _, _ :: _, h => by simp [h.2.2.2.len]
theorem FrsAt.keep {w w' : World} {base : Nat} : ∀ {ps : List Nat} {cs : List Fr}, FrsAt w base ps cs → (∀ p ∈ ps, ∀ l, Blk w p 193 l → Blk w' p 193 l) → FrsAt w' base ps cs
  | [], [], _, _ => trivial
  | p :: _, _ :: _, ⟨h1, h2, h3, h4⟩, hk => ⟨h1, h2, hk p (by simp) _ h3, h4.keep fun q hq => hk q (by simp [hq])⟩
theorem FrsAt.lt {w : World} {base : Nat} : ∀ {ps : List Nat} {cs : List Fr}, FrsAt w base ps cs → ∀ p ∈ ps, p < w.heap.size
  | [], [], _, _, hp => by cases hp
  | _ :: _, _ :: _, ⟨_, _, h3, h4⟩, _, hp => by
    rcases List.mem_cons.1 hp with rfl | hp
    · exact h3.lt
    · exact h4.lt _ hp
theorem FrsAt.below {w w' : World} {base : Nat} {ps : List Nat} {cs : List Fr} (h : FrsAt w base ps cs) (hb : Below w.heap.size w w') : FrsAt w' base ps cs :=
  h.keep fun _ _ _ hp => hp.below hb hp.lt
theorem row_lt {w : World} {base : Nat} {e : TypeId} {size n : Nat} {v : Value} {xs : List Value} (h : w.ownsRow base e size v n xs) {w' : World} (hb : Below w.heap.size w w') : w'.ownsRow base e size v n xs := by
  refine World.ownsRow.kept (row := none) h ⟨hb.os, hb.tape, hb.output, hb.size, fun k hk _ => hb.block k hk⟩ ?_
  cases v.ownBlock <;> simp
/-- A row stands where a block of another element type is written. -/
theorem row_far {w : World} {base : Nat} {e : TypeId} {size n : Nat} {v : Value} {xs : List Value} (h : w.ownsRow base e size v n xs) {g o : Nat} {t : TypeId} {cs : Array Value} (hb : Blk w g t cs) (hne : e ≠ t) (u : Value) : (w.setCell ⟨g, o, none⟩ u).ownsRow base e size v n xs := by
  refine ownsRow_setCell_other h ?_ u
  rcases h.2 with ⟨rfl, _⟩ | ⟨g', cap, cur, rfl, _, hg, _⟩
  · simp [Value.ownBlock]
  · simp only [Value.ownBlock, ne_eq, Option.some.injEq]
    rintro rfl
    unfold Blk at hb
    rw [hg] at hb
    simp only [Option.some.injEq, Obj.cells.injEq] at hb
    exact hne hb.2.1
/-- All but the machine's own block. -/
structure MRest (w : World) (base : Nat) (codes : List (List Mac)) (mem : List Int) (calls : List Fr) (input out : List Int) (cv mv lv iv ov : Value) (ps : List Nat) : Prop where
  hcodes : CodesAt w base cv codes
  hmem : w.ownsRow base 3 1 mv mem.length (intV mem)
  hcalls : w.ownsRow base 190 1 lv ps.length (ps.reverse.map ptrV)
  hinput : IntsAt w base iv input
  hout : w.ownsRow base 3 1 ov out.length (intV out)
  apart : ∀ k, mv.ownBlock = some k → ov.ownBlock ≠ some k
  frs : FrsAt w base ps calls
theorem MRest.below {w w' : World} {base : Nat} {codes : List (List Mac)} {mem : List Int} {calls : List Fr} {input out : List Int} {cv mv lv iv ov : Value} {ps : List Nat} (h : MRest w base codes mem calls input out cv mv lv iv ov ps) (hz : base ≤ w.heap.size) (hb : Below w.heap.size w w') : MRest w' base codes mem calls input out cv mv lv iv ov ps :=
  ⟨h.hcodes.below hb hz, row_lt h.hmem hb, row_lt h.hcalls hb, h.hinput.below hb hz, row_lt h.hout hb, h.apart, h.frs.below hb⟩
/-- The machine in block g is in the state s. -/
def MachIs (w : World) (base g : Nat) (codes : List (List Mac)) (s : Mch) : Prop :=
  base ≤ g ∧ ∃ cv mv lv iv ov ps, Blk w g 197 (machCells cv mv lv iv ov s).toArray ∧ MRest w base codes s.mem s.calls s.input s.out cv mv lv iv ov ps
theorem MachIs.below {w w' : World} {base g : Nat} {codes : List (List Mac)} {s : Mch} (h : MachIs w base g codes s) (hb : Below w.heap.size w w') : MachIs w' base g codes s := by
  obtain ⟨hg, cv, mv, lv, iv, ov, ps, h1, h2⟩ := h
  exact ⟨hg, cv, mv, lv, iv, ov, ps, h1.below hb h1.lt, h2.below (by have := h1.lt; omega) hb⟩
end Go.Proofs.YtdldochhondifaaGreatDoor
namespace Go.Proofs.YtdldochhondifaaGreatDoor
open Go.RowKit

theorem Blk.types {w : World} {g g' : Nat} {t t' : TypeId} {cs cs' : Array Value} (h : Blk w g t cs) (h' : Blk w g' t' cs') (hne : t ≠ t') : g ≠ g' := by
  rintro rfl
  unfold Blk at h h'
  rw [h] at h'
  simp only [Option.some.injEq, Obj.cells.injEq] at h'
  exact hne h'.2.1
theorem below_drew1 {w w' : World} {B : Nat} (h : Below B w w') : Below B w w'.drew := h.trans ⟨rfl, rfl, rfl, Nat.le_refl _, fun _ _ => rfl⟩
section
variable {w w4 : World} {base g H : Nat} {codes : List (List Mac)} {mem : List Int} {calls : List Fr} {input out : List Int} {cv mv lv lv' iv ov ov' : Value} {ps : List Nat} {ms : Array Value}
/-- The calls' row has grown by a new call's block. -/
theorem MRest.push (h : Blk w g 197 ms ∧ MRest w base codes mem calls input out cv mv lv iv ov ps) (hg : base ≤ g) (c : Fr) {n : Nat} (hn : n = ps.length)
    (ap : Appended ((w.alloc (.cells (frCells c).toArray 193)).alloc (.cells #[ptrV w.heap.size] 190)).drew base 190 1 lv (n + 1) (ps.reverse.map ptrV ++ [ptrV w.heap.size]) H lv' w4) :
    Blk w4 g 197 ms ∧ MRest w4 base codes mem (c :: calls) input out cv mv lv' iv ov (w.heap.size :: ps) ∧ Below base w w4 := by
  subst hn
  have hz : base ≤ w.heap.size := by have := h.1.lt; omega
  have hW : Below w.heap.size w ((w.alloc (.cells (frCells c).toArray 193)).alloc (.cells #[ptrV w.heap.size] 190)).drew := below_drew1 (((Below.refl _ _).alloc (Nat.le_refl _) _).alloc (by simp) _)
  have hq : Blk ((w.alloc (.cells (frCells c).toArray 193)).alloc (.cells #[ptrV w.heap.size] 190)).drew w.heap.size 193 (frCells c).toArray := (Blk.new w _ _).alloc _
  have h1 := h.1.below hW h.1.lt
  have h2 := h.2.below hz hW
  have hzW : base ≤ ((w.alloc (.cells (frCells c).toArray 193)).alloc (.cells #[ptrV w.heap.size] 190)).drew.heap.size := Nat.le_trans hz hW.size
  have hlt := h.2.frs.lt
  generalize ((w.alloc (.cells (frCells c).toArray 193)).alloc (.cells #[ptrV w.heap.size] 190)).drew = W at *
  refine ⟨ap.blk h2.hcalls h1 (by decide), ⟨h2.hcodes.below ap.below (Nat.le_refl _), ap.row h2.hmem (own_apart2 h2.hmem h2.hcalls (by decide)), ?_, h2.hinput.below ap.below (Nat.le_refl _), ap.row h2.hout (own_apart2 h2.hout h2.hcalls (by decide)), h2.apart, hz, ?_, ap.blk h2.hcalls hq (by decide), ?_⟩, (hW.mono hz).trans ap.below⟩
  · have := ap.own
    rw [List.reverse_cons, List.map_append]
    exact this
  · intro hm
    exact absurd (hlt _ hm) (Nat.lt_irrefl _)
  · exact h2.frs.keep fun p _ l hp => ap.blk h2.hcalls hp (by decide)
/-- The printed numbers' row has grown. -/
theorem MRest.print (h : Blk w g 197 ms ∧ MRest w base codes mem calls input out cv mv lv iv ov ps) (hg : base ≤ g) (x : Int) {n : Nat} (hn : n = out.length)
    (ap : Appended (w.alloc (.cells #[.int .i64 x] 3)).drew base 3 1 ov (n + 1) (intV out ++ [.int .i64 x]) (w.heap.size + 1) ov' w4) :
    Blk w4 g 197 ms ∧ MRest w4 base codes mem calls input (out ++ [x]) cv mv lv iv ov' ps ∧ Below base w w4 := by
  subst hn
  have hz : base ≤ w.heap.size := by have := h.1.lt; omega
  have hW : Below w.heap.size w (w.alloc (.cells #[.int .i64 x] 3)).drew := below_drew1 ((Below.refl _ _).alloc (Nat.le_refl _) _)
  have h1 := h.1.below hW h.1.lt
  have h2 := h.2.below hz hW
  have hml := World.ownsRow.lt h.2.hmem
  generalize (w.alloc (.cells #[.int .i64 x] 3)).drew = W at *
  refine ⟨ap.blk h2.hout h1 (by decide), ⟨h2.hcodes.below ap.below (Nat.le_refl _), ap.row h2.hmem h2.apart, ap.row h2.hcalls (own_apart2 h2.hcalls h2.hout (by decide)), h2.hinput.below ap.below (Nat.le_refl _), ?_, ?_, h2.frs.keep fun p _ l hp => ap.blk h2.hout hp (by decide)⟩, (hW.mono hz).trans ap.below⟩
  · have := ap.own
    rw [List.length_append, show intV (out ++ [x]) = intV out ++ [.int .i64 x] by unfold intV; simp]
    exact this
  · intro k hk
    rcases ap.2.2.2 with e | e
    · rw [e]
      exact h2.apart k hk
    · rw [e]
      have := (hml k hk).2
      simp only [ne_eq, Option.some.injEq]
      omega
end
end Go.Proofs.YtdldochhondifaaGreatDoor
namespace Go.Proofs.YtdldochhondifaaGreatDoor
open Go.RowKit

/-- The machine lies in block g, its newest call in block p. -/
def MachTop (w : World) (base g : Nat) (codes : List (List Mac)) (s : Mch) (c : Fr) (cs : List Fr) (p : Nat) : Prop :=
  base ≤ g ∧ s.calls = c :: cs ∧ ∃ cv mv lv iv ov ps, Blk w g 197 (machCells cv mv lv iv ov s).toArray ∧ MRest w base codes s.mem (c :: cs) s.input s.out cv mv lv iv ov (p :: ps)
theorem MachTop.below {w w' : World} {base g : Nat} {codes : List (List Mac)} {s : Mch} {c : Fr} {cs : List Fr} {p : Nat} (h : MachTop w base g codes s c cs p) (hb : Below w.heap.size w w') : MachTop w' base g codes s c cs p := by
  obtain ⟨hg, hs, cv, mv, lv, iv, ov, ps, h1, h2⟩ := h
  exact ⟨hg, hs, cv, mv, lv, iv, ov, ps, h1.below hb h1.lt, h2.below (by have := h1.lt; omega) hb⟩
theorem MachTop.size {w : World} {base g : Nat} {codes : List (List Mac)} {s : Mch} {c : Fr} {cs : List Fr} {p : Nat} (h : MachTop w base g codes s c cs p) : base ≤ w.heap.size := by
  obtain ⟨hg, _, _, _, _, _, _, _, h1, _⟩ := h
  have := h1.lt
  omega
theorem MachIs.drew {w : World} {base g : Nat} {codes : List (List Mac)} {s : Mch} (h : MachIs w base g codes s) : MachIs w.drew base g codes s := h.below (below_drew (Below.refl _ _))
theorem MachIs.drewN {w : World} {base g : Nat} {codes : List (List Mac)} {s : Mch} (h : MachIs w base g codes s) (n : Nat) : MachIs (w.drewN n) base g codes s := h.below (below_drewN (Below.refl _ _) n)
end Go.Proofs.YtdldochhondifaaGreatDoor
namespace Go.Proofs.YtdldochhondifaaGreatDoor
open Go.RowKit
attribute [local go_sem ↓] Go.wp_at_zero Go.wp_at_succ

theorem IntsAt.tail {w : World} {B b off c : Nat} {x : Int} {l : List Int} (hc : l.length + 1 ≤ c) (h63 : c ≤ 9223372036854775807) (hb : b < B) (hcell : ∀ (k : Nat) (y : Int), (x :: l)[k]? = some y → w.cell? ⟨b, off + k, none⟩ = some (.int .i64 y)) :
    IntsAt w B (.slice (some ⟨b, off + 1, none⟩) l.length (c - 1)) l := by
  refine ⟨_, c - 1, rfl, by omega, by omega, fun hl => ?_⟩
  refine ⟨b, off + 1, rfl, hb, fun k y hk => ?_⟩
  have := hcell (k + 1) y (by simpa using hk)
  rw [← this]
  congr 2
  omega
theorem IntsAt.tail1 {w : World} {B b off : Nat} {l : List Int} (hc : l.length + 1 ≤ 1) : IntsAt w B (.slice (some ⟨b, off, none⟩) l.length 0) l :=
  ⟨_, 0, rfl, by omega, by omega, fun hl => by omega⟩
end Go.Proofs.YtdldochhondifaaGreatDoor
namespace Go.Proofs.YtdldochhondifaaGreatDoor
open Go.RowKit

/-- All blocks of cells stand. -/
def KeepC (W W' : World) : Prop := W.heap.size ≤ W'.heap.size ∧ ∀ (g : Nat) (cs : Array Value) (t : TypeId) (f : Nat × Nat), W.heap[g]? = some (.cells cs t f) → W'.heap[g]? = some (.cells cs t f)
theorem KeepC.refl (W : World) : KeepC W W := ⟨Nat.le_refl _, fun _ _ _ _ h => h⟩
theorem KeepC.blk {W W' : World} (h : KeepC W W') {g : Nat} {t : TypeId} {cs : Array Value} (hb : Blk W g t cs) : Blk W' g t cs := h.2 _ _ _ _ hb
theorem KeepC.cell {W W' : World} (h : KeepC W W') {b o : Nat} {v : Value} (hc : W.cell? ⟨b, o, none⟩ = some v) : W'.cell? ⟨b, o, none⟩ = some v := by
  unfold World.cell? at *
  split at hc
  · rename_i c t f hh
    rw [h.2 _ _ _ _ hh]
    exact hc
  · cases hc
theorem KeepC.row {W W' : World} (h : KeepC W W') {base : Nat} {e : TypeId} {size n : Nat} {v : Value} {xs : List Value} (ho : W.ownsRow base e size v n xs) : W'.ownsRow base e size v n xs := by
  obtain ⟨h1, h2⟩ := ho
  refine ⟨h1, ?_⟩
  rcases h2 with h2 | ⟨g, cap, cur, a, b, c, d⟩
  · exact .inl h2
  · exact .inr ⟨g, cap, cur, a, b, h.2 _ _ _ _ c, d⟩
theorem KeepC.macs {W W' : World} (h : KeepC W W') {B : Nat} {v : Value} {ms : List Mac} (hm : MacsAt W B v ms) : MacsAt W' B v ms := by
  obtain ⟨A, c, e, h1, h2, h3⟩ := hm
  refine ⟨A, c, e, h1, h2, fun hl => ?_⟩
  obtain ⟨b, off, e1, e2, e3⟩ := h3 hl
  refine ⟨b, off, e1, e2, fun k m hk => ?_⟩
  obtain ⟨a0, a1, a2, a3, a4⟩ := e3 k m hk
  exact ⟨h.cell a0, h.cell a1, h.cell a2, h.cell a3, h.cell a4⟩
theorem KeepC.codes {W W' : World} (h : KeepC W W') {B : Nat} {v : Value} {xss : List (List Mac)} (hm : CodesAt W B v xss) : CodesAt W' B v xss := by
  obtain ⟨A, c, e, h1, h2, h3⟩ := hm
  refine ⟨A, c, e, h1, h2, fun hl => ?_⟩
  obtain ⟨b, off, e1, e2, e3⟩ := h3 hl
  refine ⟨b, off, e1, e2, fun k m hk => ?_⟩
  obtain ⟨r, hr, hi⟩ := e3 k m hk
  exact ⟨r, h.cell hr, h.macs hi⟩
theorem KeepC.ints {W W' : World} (h : KeepC W W') {B : Nat} {v : Value} {xs : List Int} (hm : IntsAt W B v xs) : IntsAt W' B v xs := by
  obtain ⟨A, c, e, h1, h2, h3⟩ := hm
  refine ⟨A, c, e, h1, h2, fun hl => ?_⟩
  obtain ⟨b, off, e1, e2, e3⟩ := h3 hl
  exact ⟨b, off, e1, e2, fun k m hk => h.cell (e3 k m hk)⟩
theorem MachIs.kept {W W' : World} {base g : Nat} {codes : List (List Mac)} {s : Mch} (hm : MachIs W base g codes s) (h : KeepC W W') : MachIs W' base g codes s := by
  obtain ⟨hg, cv, mv, lv, iv, ov, ps, h1, h2⟩ := hm
  exact ⟨hg, cv, mv, lv, iv, ov, ps, h.blk h1, h.codes h2.hcodes, h.row h2.hmem, h.row h2.hcalls, h.ints h2.hinput, h.row h2.hout, h2.apart, h2.frs.keep fun p _ l hp => h.blk hp⟩
/-- The memory's row has grown. -/
theorem MRest.grow {w w4 : World} {base g n H : Nat} {codes : List (List Mac)} {mem mem' : List Int} {calls : List Fr} {input out : List Int} {cv mv mv' lv iv ov : Value} {ps : List Nat} {ms : Array Value}
    (h : Blk w g 197 ms ∧ MRest w base codes mem calls input out cv mv lv iv ov ps) (hH : w.heap.size = H) (hn : n = mem'.length) {l : List Value} (hl : l = intV mem')
    (ap : Appended w base 3 1 mv n l H mv' w4) : Blk w4 g 197 ms ∧ MRest w4 base codes mem' calls input out cv mv' lv iv ov ps := by
  subst hn
  subst hl
  subst hH
  obtain ⟨h1, h2⟩ := h
  have hol := World.ownsRow.lt h2.hout
  refine ⟨ap.blk h2.hmem h1 (by decide), h2.hcodes.below ap.below (Nat.le_refl _), ap.own, ap.row h2.hcalls (own_apart2 h2.hcalls h2.hmem (by decide)), h2.hinput.below ap.below (Nat.le_refl _), ap.row h2.hout ?_, ?_, h2.frs.keep fun p _ l hp => ap.blk h2.hmem hp (by decide)⟩
  · intro k hk hk'
    exact h2.apart k hk' hk
  · intro k hk
    rcases ap.2.2.2 with e | e
    · rw [e] at hk
      exact h2.apart k hk
    · rw [e] at hk
      cases hk
      intro hk'
      exact absurd (hol _ hk').2 (Nat.lt_irrefl _)
theorem Blk.set4 {w : World} {g : Nat} {t : TypeId} {x0 x1 x2 x3 : Value} (h : Blk w g t #[x0, x1, x2, x3]) (a b c d : Value) : Blk ((((w.setCell ⟨g, 0, none⟩ a).setCell ⟨g, 1, none⟩ b).setCell ⟨g, 2, none⟩ c).setCell ⟨g, 3, none⟩ d) g t #[a, b, c, d] :=
  (((h.set_ 0 a).set_ 1 b).set_ 2 c).set_ 3 d
/-- What stands while a run goes on. -/
structure RunNow (w : World) (b0 gi : Nat) (gv rv : Value) (J : World → List (Nat × Nat) → Prop) (tr : List (Nat × Nat)) (wx : World) : Prop where
  img : Blk wx gi 43 #[gv, rv]
  res : Blk wx (gi + 1) 97 #[.int .i64 0, .int .i64 0, .slice none 0 0, .int .i64 0]
  flt : Blk wx (gi + 1 + 1) 24 #[.int .i64 0, .int .i64 0]
  below : Below b0 w wx
  kept : J wx tr
  keep : ∀ g t cs, g < gi → Blk w g t cs → Blk wx g t cs
theorem RunNow.next {w : World} {b0 gi B : Nat} {gv rv : Value} {J : World → List (Nat × Nat) → Prop} {tr : List (Nat × Nat)} {wx wy : World} (h : RunNow w b0 gi gv rv J tr wx) (hb : Below B wx wy) (hB : gi + 3 ≤ B) (hb0 : b0 ≤ B) (hJ : ∀ W W' tr, J W tr → Below gi W W' → J W' tr) : RunNow w b0 gi gv rv J tr wy :=
  ⟨h.img.below hb (by omega), h.res.below hb (by omega), h.flt.below hb (by omega), h.below.trans (hb.mono hb0), hJ _ _ _ h.kept (hb.mono (by omega)), fun g t cs hg hk => (h.keep g t cs hg hk).below hb (by omega)⟩
theorem RunNow.end_ {w : World} {b0 gi : Nat} {gv rv : Value} {J : World → List (Nat × Nat) → Prop} {tr : List (Nat × Nat)} {wx : World} (h : RunNow w b0 gi gv rv J tr wx) (a b c d x y : Value) :
    Blk ((((((wx.setCell ⟨gi + 1, 0, none⟩ a).setCell ⟨gi + 1, 1, none⟩ b).setCell ⟨gi + 1, 2, none⟩ c).setCell ⟨gi + 1, 3, none⟩ d).setCell ⟨gi + 1 + 1, 0, none⟩ x).setCell ⟨gi + 1 + 1, 1, none⟩ y) (gi + 1) 97 #[a, b, c, d] ∧
    Blk ((((((wx.setCell ⟨gi + 1, 0, none⟩ a).setCell ⟨gi + 1, 1, none⟩ b).setCell ⟨gi + 1, 2, none⟩ c).setCell ⟨gi + 1, 3, none⟩ d).setCell ⟨gi + 1 + 1, 0, none⟩ x).setCell ⟨gi + 1 + 1, 1, none⟩ y) (gi + 1 + 1) 24 #[x, y] ∧
    Below (gi + 1) wx ((((((wx.setCell ⟨gi + 1, 0, none⟩ a).setCell ⟨gi + 1, 1, none⟩ b).setCell ⟨gi + 1, 2, none⟩ c).setCell ⟨gi + 1, 3, none⟩ d).setCell ⟨gi + 1 + 1, 0, none⟩ x).setCell ⟨gi + 1 + 1, 1, none⟩ y) := by
  refine ⟨?_, ?_, ?_⟩
  · exact (((h.res.set4 a b c d).far (by simp) x).far (by simp) y)
  · exact Blk.set2 ((((h.flt.far (by simp) a).far (by simp) b).far (by simp) c).far (by simp) d) x y
  · exact ((((((Below.refl _ _).setCell (by simp) _).setCell (by simp) _).setCell (by simp) _).setCell (by simp) _).setCell (by simp) _).setCell (by simp) _
/-- Instructions between two blocks' numbers. -/
def MacsHi (w : World) (lo B : Nat) (v : Value) (ms : List Mac) : Prop :=
  ∃ (A : Option Addr) (c : Nat), v = .slice A ms.length c ∧ ms.length ≤ c ∧ ms.length ≤ 9223372036854775807 ∧
    (0 < ms.length → ∃ b off, A = some ⟨b, off, none⟩ ∧ lo ≤ b ∧ b < B ∧ ∀ (k : Nat) (m : Mac), ms[k]? = some m → MacAt w b (off + k * 5) m)
def CodesHi (w : World) (lo B : Nat) (v : Value) (xss : List (List Mac)) : Prop :=
  ∃ (A : Option Addr) (c : Nat), v = .slice A xss.length c ∧ xss.length ≤ c ∧ c ≤ 9223372036854775807 ∧
    (0 < xss.length → ∃ b off, A = some ⟨b, off, none⟩ ∧ lo ≤ b ∧ b < B ∧ ∀ (k : Nat) (xs : List Mac), xss[k]? = some xs → ∃ r, w.cell? ⟨b, off + k, none⟩ = some r ∧ MacsHi w lo B r xs)
section
variable {w w' : World} {lo B : Nat} {v : Value}
theorem MacsHi.turn {ms : List Mac} (h : MacsHi w lo B v ms) (hc : ∀ b o u, lo ≤ b → b < B → w.cell? ⟨b, o, none⟩ = some u → w'.cell? ⟨b, o, none⟩ = some u) : MacsHi w' lo B v ms := by
  obtain ⟨A, c, e, h1, h2, h3⟩ := h
  refine ⟨A, c, e, h1, h2, fun hl => ?_⟩
  obtain ⟨b, off, e1, e2, e3, e4⟩ := h3 hl
  refine ⟨b, off, e1, e2, e3, fun k m hk => ?_⟩
  obtain ⟨a0, a1, a2, a3, a4⟩ := e4 k m hk
  exact ⟨hc _ _ _ e2 e3 a0, hc _ _ _ e2 e3 a1, hc _ _ _ e2 e3 a2, hc _ _ _ e2 e3 a3, hc _ _ _ e2 e3 a4⟩
theorem CodesHi.turn {xss : List (List Mac)} (h : CodesHi w lo B v xss) (hc : ∀ b o u, lo ≤ b → b < B → w.cell? ⟨b, o, none⟩ = some u → w'.cell? ⟨b, o, none⟩ = some u) : CodesHi w' lo B v xss := by
  obtain ⟨A, c, e, h1, h2, h3⟩ := h
  refine ⟨A, c, e, h1, h2, fun hl => ?_⟩
  obtain ⟨b, off, e1, e2, e3, e4⟩ := h3 hl
  refine ⟨b, off, e1, e2, e3, fun k m hk => ?_⟩
  obtain ⟨r, hr, hi⟩ := e4 k m hk
  exact ⟨r, hc _ _ _ e2 e3 hr, hi.turn hc⟩
theorem CodesHi.below {xss : List (List Mac)} (h : CodesHi w lo B v xss) (hb : Below B w w') : CodesHi w' lo B v xss := h.turn fun _ _ _ _ h2 hc => (bcell hb h2).trans hc
theorem CodesHi.kept {xss : List (List Mac)} (h : CodesHi w lo B v xss) (hk : KeepC w w') : CodesHi w' lo B v xss := h.turn fun _ _ _ _ _ hc => hk.cell hc
theorem CodesHi.low {xss : List (List Mac)} (h : CodesHi w lo B v xss) {b o : Nat} (hb : b < lo) (u : Value) : CodesHi (w.setCell ⟨b, o, none⟩ u) lo B v xss :=
  h.turn fun b' o' u' h1 _ hc => (World.cell?_setCell_far w ⟨b, o, none⟩ ⟨b', o', none⟩ u (by show b ≠ b'; omega)).trans hc
theorem MacsHi.to {ms : List Mac} (h : MacsHi w lo B v ms) : MacsAt w B v ms := by
  obtain ⟨A, c, e, h1, h2, h3⟩ := h
  refine ⟨A, c, e, h1, h2, fun hl => ?_⟩
  obtain ⟨b, off, e1, _, e3, e4⟩ := h3 hl
  exact ⟨b, off, e1, e3, e4⟩
theorem CodesHi.to {xss : List (List Mac)} (h : CodesHi w lo B v xss) : CodesAt w B v xss := by
  obtain ⟨A, c, e, h1, h2, h3⟩ := h
  refine ⟨A, c, e, h1, h2, fun hl => ?_⟩
  obtain ⟨b, off, e1, _, e3, e4⟩ := h3 hl
  refine ⟨b, off, e1, e3, fun k m hk => ?_⟩
  obtain ⟨r, hr, hi⟩ := e4 k m hk
  exact ⟨r, hr, hi.to⟩
theorem OwnMacs.hi {ms : List Mac} (h : OwnMacs w lo v ms) : MacsHi w lo w.heap.size v ms := by
  obtain ⟨A, c, e, h1, h2, h3⟩ := h.macs
  refine ⟨A, c, e, h1, h2, fun hl => ?_⟩
  obtain ⟨b, off, e1, e3, e4⟩ := h3 hl
  subst e1
  refine ⟨b, off, rfl, ?_, e3, e4⟩
  subst e
  rcases h.2 with ⟨h', _⟩ | ⟨g', cap', cur', h', hb, _⟩
  · simp at h'
  · simp only [Value.slice.injEq, Option.some.injEq, Addr.mk.injEq, and_true, true_and] at h'
    obtain ⟨⟨rfl, _⟩, _⟩ := h'
    exact hb
theorem CodesOwn.hi {xss : List (List Mac)} (h : CodesOwn w lo v xss) : CodesHi w lo w.heap.size v xss := by
  obtain ⟨rs, h1, h2, h3⟩ := h
  rcases h2.2 with ⟨rfl, hn⟩ | ⟨g, cap, cur, rfl, hlo, hgg, hnc, hcm, _, _⟩
  · have : xss = [] := List.eq_nil_of_length_eq_zero (by omega)
    subst this
    exact ⟨none, 0, rfl, by simp, by omega, fun h => by simp at h⟩
  · refine ⟨some ⟨g, 0, none⟩, cap, by rw [h1], by omega, by unfold maxLen at hcm; omega, fun _ => ⟨g, 0, rfl, hlo, (World.ownsRow.lt h2 g rfl).2, fun k xs hk => ?_⟩⟩
    have hkl : k < rs.length := by have := (List.getElem?_eq_some_iff.1 hk).1; omega
    have hc := World.ownsRow.cells h2 (g := g) rfl k rs[k] (List.getElem?_eq_getElem hkl)
    have e : (⟨g, 0, none⟩ : Addr).add k = ⟨g, 0 + k, none⟩ := by
      unfold Addr.add
      split <;> simp_all
    rw [e] at hc
    exact ⟨_, hc, (h3 k _ xs (List.getElem?_eq_getElem hkl) hk).hi⟩
end
/-- A row of numbers stands where the results are laid down. -/
theorem RunNow.row {w : World} {b0 gi rb n size : Nat} {gv rv v : Value} {l : List Value} {J : World → List (Nat × Nat) → Prop} {tr : List (Nat × Nat)} {wx : World} (h : RunNow w b0 gi gv rv J tr wx) {e : TypeId} (ho : wx.ownsRow rb e size v n l) (h1 : e ≠ 97) (h2 : e ≠ 24) (a b c d x y : Value) :
    ((((((wx.setCell ⟨gi + 1, 0, none⟩ a).setCell ⟨gi + 1, 1, none⟩ b).setCell ⟨gi + 1, 2, none⟩ c).setCell ⟨gi + 1, 3, none⟩ d).setCell ⟨gi + 1 + 1, 0, none⟩ x).setCell ⟨gi + 1 + 1, 1, none⟩ y).ownsRow rb e size v n l := by
  have r := h.res
  have f := h.flt
  have o1 := row_far (o := 0) ho r h1 a
  have r1 := r.set_ 0 a
  have o2 := row_far (o := 1) o1 r1 h1 b
  have r2 := r1.set_ 1 b
  have o3 := row_far (o := 2) o2 r2 h1 c
  have r3 := r2.set_ 2 c
  have o4 := row_far (o := 3) o3 r3 h1 d
  have f4 := (((f.far (p := ⟨gi + 1, 0, none⟩) (by simp) a).far (p := ⟨gi + 1, 1, none⟩) (by simp) b).far (p := ⟨gi + 1, 2, none⟩) (by simp) c).far (p := ⟨gi + 1, 3, none⟩) (by simp) d
  have o5 := row_far (o := 0) o4 f4 h2 x
  have f5 := f4.set_ 0 x
  exact row_far (o := 1) o5 f5 h2 y
end Go.Proofs.YtdldochhondifaaGreatDoor
namespace Go.Proofs.YtdldochhondifaaGreatDoor
open Go.RowKit

end Go.Proofs.YtdldochhondifaaGreatDoor
namespace Go.Proofs.YtdldochhondifaaGreatDoor
open Go.RowKit

end Go.Proofs.YtdldochhondifaaGreatDoor
namespace Go.Proofs.YtdldochhondifaaGreatDoor
open Go.RowKit

theorem numS_bytes : ∀ (n : Nat), BytesOk (numS n) := by
  intro n
  induction n using Nat.strongRecOn with
  | _ n ih =>
    by_cases h : n < 128
    · rw [numS_small n h]
      intro x hx
      rw [List.mem_singleton.1 hx]
      omega
    · rw [numS_big n h]
      intro x hx
      rcases List.mem_cons.1 hx with rfl | hx
      · omega
      · exact ih (n / 128) (by omega) x hx
theorem pack_bytes : ∀ (rs : List Int), (∀ x ∈ rs, 0 ≤ x ∧ x < 16) → BytesOk (packS rs)
  | [], _ => fun x hx => by cases hx
  | [x], h => fun y hy => by
    have := h x (by simp)
    rw [List.mem_singleton.1 hy]
    omega
  | x :: y :: l, h => fun z hz => by
    have hx := h x (by simp)
    have hy := h y (by simp)
    rcases List.mem_cons.1 hz with rfl | hz
    · omega
    · exact pack_bytes l (fun a ha => h a (by simp [ha])) z hz
theorem codeS_bytes {m : Mac} (h : Fine m) : BytesOk (codeS m) := by
  intro x hx
  unfold codeS at hx
  rcases List.mem_cons.1 hx with rfl | hx
  · have := (isOp_iff _).1 h.op
    omega
  · rcases List.mem_append.1 hx with hx | hx
    · exact pack_bytes _ (regs_in m h.regs) x hx
    · split at hx
      · cases hx
      · exact numS_bytes _ x hx
theorem codeL_bytes {ms : List Mac} (h : (checkS ms).1 = 0) (hi : ∀ m ∈ ms, m.ok) : BytesOk (codeL ms) := by
  have hf := (fine_of_check h hi).2
  intro x hx
  unfold codeL at hx
  rw [if_pos h] at hx
  unfold bytesS at hx
  obtain ⟨l, hl, hx⟩ := List.mem_flatten.1 hx
  obtain ⟨m, hm, rfl⟩ := List.mem_map.1 hl
  exact codeS_bytes (hf m hm) x hx
end Go.Proofs.YtdldochhondifaaGreatDoor
namespace Go.Proofs.YtdldochhondifaaGreatDoor
open Go.RowKit

def kGlobs : List Glob := [⟨⟨#[103]⟩, 2, [5]⟩, ⟨⟨#[104]⟩, 1, []⟩]
/-- From block lo on, what lay there lies there. -/
def Turn (lo : Nat) (w w' : World) : Prop := ∀ b o x, lo ≤ b → w.cell? ⟨b, o, none⟩ = some x → w'.cell? ⟨b, o, none⟩ = some x
theorem Turn.refl (lo : Nat) (w : World) : Turn lo w w := fun _ _ _ _ h => h
theorem Turn.trans {lo : Nat} {a b c : World} (h : Turn lo a b) (k : Turn lo b c) : Turn lo a c := fun _ _ _ h1 h2 => k _ _ _ h1 (h _ _ _ h1 h2)
theorem Turn.more {lo lo' : Nat} {a b : World} (h : Turn lo a b) (hl : lo ≤ lo') : Turn lo' a b := fun _ _ _ h1 h2 => h _ _ _ (Nat.le_trans hl h1) h2
theorem Turn.of_below {lo : Nat} {w w' : World} (h : Below w.heap.size w w') : Turn lo w w' := fun b o _ _ hc => (bcell h (World.block_lt_of_cell? w ⟨b, o, none⟩ hc)).trans hc
theorem Turn.low {lo g o : Nat} (w : World) (u : Value) (h : g < lo) : Turn lo w (w.setCell ⟨g, o, none⟩ u) := fun b o' _ h1 hc => (World.cell?_setCell_far w ⟨g, o, none⟩ ⟨b, o', none⟩ u (by show g ≠ b; omega)).trans hc
theorem Turn.grown {lo : Nat} {w w' : World} {row : Option Nat} (h : w.grownBy w' row) (hr : ∀ k, row = some k → k < lo) : Turn lo w w' := fun b o _ h1 hc => by
  have hlt := World.block_lt_of_cell? w ⟨b, o, none⟩ hc
  refine (h.cell_far ⟨b, o, none⟩ hlt ?_).trans hc
  intro e
  have := hr b e.symm
  omega
theorem kGlobs_of {w : World} {b c B : Nat} (hb : b < B) (hc : c < B) (c0 : w.cell? ⟨c, 0, none⟩ = some (.int .i64 5)) (b0 : w.cell? ⟨b, 0, none⟩ = some (.string ⟨#[103]⟩)) (b1 : w.cell? ⟨b, 1, none⟩ = some (.int .i64 2)) (b2 : w.cell? ⟨b, 2, none⟩ = some (.slice (some ⟨c, 0, none⟩) 1 1))
    (b3 : w.cell? ⟨b, 3, none⟩ = some (.string ⟨#[104]⟩)) (b4 : w.cell? ⟨b, 4, none⟩ = some (.int .i64 1)) (b5 : w.cell? ⟨b, 5, none⟩ = some (.slice none 0 0)) :
    GlobsAt w B (.slice (some ⟨b, 0, none⟩) 2 2) kGlobs := by
  refine ⟨_, 2, rfl, by decide, by omega, fun _ => ⟨b, 0, rfl, hb, fun k g hk => ?_⟩⟩
  match k, hk with
  | 0, hk =>
    simp only [kGlobs, List.getElem?_cons_zero, Option.some.injEq] at hk
    subst hk
    refine ⟨.slice (some ⟨c, 0, none⟩) 1 1, b0, b1, b2, ⟨_, 1, rfl, by decide, by omega, fun _ => ⟨c, 0, rfl, hc, fun j x hj => ?_⟩⟩⟩
    match j, hj with
    | 0, hj =>
      simp only [List.getElem?_cons_zero, Option.some.injEq] at hj
      subst hj
      exact c0
    | j + 1, hj => simp at hj
  | 1, hk =>
    simp only [kGlobs, List.getElem?_cons_zero, List.getElem?_cons_succ, Option.some.injEq] at hk
    subst hk
    exact ⟨.slice none 0 0, b3, b4, b5, ⟨none, 0, rfl, by decide, by omega, fun h => by simp at h⟩⟩
  | k + 2, hk => simp [kGlobs] at hk
def GlobsPost (w : World) (gs : List Glob) (e : Ending) (w' : World) : Prop := ∃ A n c, e = .returned (.slice A n c) ∧ (∀ W, Turn w.heap.size w' W → GlobsAt W w'.heap.size (.slice A n c) gs) ∧ Below w.heap.size w w'
theorem KGlobals_any (w : World) : Calls Tryz.prog 44 #[] w (GlobsPost w kGlobs) := by
  obtain ⟨PE, hPE⟩ : ∃ PE, GlobsPost w kGlobs = PE := ⟨_, rfl⟩
  rw [hPE]
  have HPE := Lib.hid hPE
  clear hPE
  go_enter Tryz.func44, Tryz.ntmps44
  go_wp2_with fail
  rw [← HPE.out]
  have hc := (Blk.new w 3 #[.int .i64 5]).alloc (.cells #[.string ⟨#[103]⟩, .int .i64 2, .slice (some ⟨w.heap.size, 0, none⟩) 1 1, .string ⟨#[104]⟩, .int .i64 1, .slice none 0 0] 79)
  have hb : Blk ((w.alloc (.cells #[.int .i64 5] 3)).alloc (.cells #[.string ⟨#[103]⟩, .int .i64 2, .slice (some ⟨w.heap.size, 0, none⟩) 1 1, .string ⟨#[104]⟩, .int .i64 1, .slice none 0 0] 79)) (w.heap.size + 1) 79 #[.string ⟨#[103]⟩, .int .i64 2, .slice (some ⟨w.heap.size, 0, none⟩) 1 1, .string ⟨#[104]⟩, .int .i64 1, .slice none 0 0] := by
    have := Blk.new (w.alloc (.cells #[.int .i64 5] 3)) 79 #[.string ⟨#[103]⟩, .int .i64 2, .slice (some ⟨w.heap.size, 0, none⟩) 1 1, .string ⟨#[104]⟩, .int .i64 1, .slice none 0 0]
    simpa using this
  refine ⟨_, _, _, rfl, fun W hW => ?_, ((Below.refl _ _).alloc (Nat.le_refl _) _).alloc (by simp) _⟩
  exact kGlobs_of hb.lt hc.lt (hW _ _ _ (Nat.le_refl _) (hc.cell 0)) (hW _ _ _ (Nat.le_succ _) (hb.cell 0)) (hW _ _ _ (Nat.le_succ _) (hb.cell 1)) (hW _ _ _ (Nat.le_succ _) (hb.cell 2)) (hW _ _ _ (Nat.le_succ _) (hb.cell 3)) (hW _ _ _ (Nat.le_succ _) (hb.cell 4)) (hW _ _ _ (Nat.le_succ _) (hb.cell 5))
theorem OwnB.turn {w W : World} {base : Nat} {v : Value} {xs : List Int} (h : OwnB w base v xs) (hW : Turn base w W) : BAt W w.heap.size v xs := by
  obtain ⟨A, c, e, h1, h2, h3⟩ := h.bytes
  refine ⟨A, c, e, h1, h2, fun hl => ?_⟩
  obtain ⟨b, off, e1, e2, e3⟩ := h3 hl
  subst e1
  have hb : base ≤ b := by
    subst e
    rcases h.2 with ⟨h', _⟩ | ⟨g', cap', cur', h', hb, _⟩
    · simp at h'
    · simp only [Value.slice.injEq, Option.some.injEq, Addr.mk.injEq, and_true, true_and] at h'
      obtain ⟨⟨rfl, _⟩, _⟩ := h'
      exact hb
  exact ⟨b, off, rfl, e2, fun k x hk => hW _ _ _ hb (e3 k x hk)⟩
def mainB : ByteArray := ⟨#[109, 97, 105, 110]⟩
/-- What an image in memory is. -/
def ImgPost (w : World) (gs : List Glob) (rs : List Rout) (e : Ending) (w' : World) : Prop :=
  ∃ gv rv, e = .returned (.agg #[gv, rv]) ∧ (∀ W, Turn w.heap.size w' W → GlobsAt W w'.heap.size gv gs ∧ RoutsAt W w'.heap.size rv rs) ∧ Below w.heap.size w w'
end Go.Proofs.YtdldochhondifaaGreatDoor
namespace Go.Proofs.YtdldochhondifaaGreatDoor
open Go.RowKit

theorem kGlobs_fine : globF kGlobs = (0, 0) := by decide +kernel
theorem kGlobs_ok : GOk kGlobs := by
  intro g hg
  simp only [kGlobs, List.mem_cons, List.not_mem_nil, or_false] at hg
  rcases hg with rfl | rfl
  · exact ⟨by decide, by unfold I64; decide⟩
  · exact ⟨by decide, by unfold I64; decide⟩
theorem main_name : rNameBad 0 mainB = false := by decide +kernel
theorem main_had : rHadG kGlobs mainB = false := by decide +kernel
end Go.Proofs.YtdldochhondifaaGreatDoor
namespace Go.Proofs.YtdldochhondifaaGreatDoor
open Go.RowKit

end Go.Proofs.YtdldochhondifaaGreatDoor
namespace Go.Proofs.YtdldochhondifaaGreatDoor
open Go.RowKit

/-- The image's routines. -/
def imgR (la lb lc : List Int) (n : Nat) : List Rout := [⟨mainB, codeL (codeOf la n 3)⟩, ⟨⟨#[102]⟩, codeL (codeOf lb n 3)⟩, ⟨⟨#[107]⟩, codeL (codeOf lc n 3)⟩]
theorem codeOf_bytes (la : List Int) (n : Nat) (hn : n ≤ 1000) : bytesS (codeOf la n 3) = codeL (codeOf la n 3) := by
  unfold codeL
  rw [if_pos (by rw [codeOf_ok la n 3 (by omega) (by omega)])]

/-- The cells of routines, whose codes the call owns from block base on. -/
def RCells (w : World) (base : Nat) : List Value → List Rout → Prop
  | [], [] => True
  | n :: cv :: xs, r :: rs => n = .string r.name ∧ OwnB w base cv r.code ∧ RCells w base xs rs
  | _, _ => False
theorem RCells.mono {w w' : World} {base : Nat} (h : ∀ cv bs, OwnB w base cv bs → OwnB w' base cv bs) : ∀ {xs : List Value} {rs : List Rout}, RCells w base xs rs → RCells w' base xs rs
  | [], [], _ => trivial
  | _ :: _ :: _, _ :: _, ⟨h1, h2, h3⟩ => ⟨h1, h _ _ h2, RCells.mono h h3⟩
  | [], _ :: _, hf => hf.elim
  | [_], [], hf => hf.elim
  | [_], _ :: _, hf => hf.elim
  | _ :: _ :: _, [], hf => hf.elim
theorem RCells.snoc {w : World} {base : Nat} {n : ByteArray} {cv : Value} {bs : List Int} (hc : OwnB w base cv bs) : ∀ {xs : List Value} {rs : List Rout}, RCells w base xs rs → RCells w base (xs ++ [.string n, cv]) (rs ++ [⟨n, bs⟩])
  | [], [], _ => ⟨rfl, hc, trivial⟩
  | _ :: _ :: _, _ :: _, ⟨h1, h2, h3⟩ => ⟨h1, h2, RCells.snoc hc h3⟩
  | [], _ :: _, hf => hf.elim
  | [_], [], hf => hf.elim
  | [_], _ :: _, hf => hf.elim
  | _ :: _ :: _, [], hf => hf.elim
theorem RCells.get {w : World} {base : Nat} : ∀ {xs : List Value} {rs : List Rout} {k : Nat} {r : Rout}, RCells w base xs rs → rs[k]? = some r → ∃ cv, xs[k * 2]? = some (.string r.name) ∧ xs[k * 2 + 1]? = some cv ∧ OwnB w base cv r.code
  | [], [], k, r, _, hk => by simp at hk
  | _ :: cv :: _, _ :: _, 0, r, ⟨h1, h2, _⟩, hk => by
    simp only [List.getElem?_cons_zero, Option.some.injEq] at hk
    subst hk
    exact ⟨cv, by rw [h1]; rfl, rfl, h2⟩
  | _ :: _ :: _, _ :: _, k + 1, r, ⟨_, _, h3⟩, hk => by
    obtain ⟨cv, e1, e2, e3⟩ := RCells.get h3 (by simpa using hk)
    refine ⟨cv, ?_, ?_, e3⟩
    · rw [show (k + 1) * 2 = k * 2 + 1 + 1 by omega]; simpa using e1
    · rw [show (k + 1) * 2 + 1 = k * 2 + 1 + 1 + 1 by omega]; simpa using e2
  | [], _ :: _, _, _, hf, _ => hf.elim
  | [_], [], _, _, hf, _ => hf.elim
  | [_], _ :: _, _, _, hf, _ => hf.elim
  | _ :: _ :: _, [], _, _, hf, _ => hf.elim
/-- Rows of different element types lie apart. -/
theorem own_apart {w : World} {b b' : Nat} {e e' : TypeId} {size size' n n' : Nat} {v v' : Value} {xs xs' : List Value} (h : w.ownsRow b e size v n xs) (h' : w.ownsRow b' e' size' v' n' xs') (hne : e ≠ e') : ∀ k, v.ownBlock = some k → v'.ownBlock ≠ some k := by
  intro k hk hk'
  rcases h.2 with ⟨rfl, _⟩ | ⟨g, cap, cur, rfl, _, hh, _⟩
  · simp [Value.ownBlock] at hk
  · rcases h'.2 with ⟨rfl, _⟩ | ⟨g', cap', cur', rfl, _, hh', _⟩
    · simp [Value.ownBlock] at hk'
    · simp only [Value.ownBlock, Option.some.injEq] at hk hk'
      subst hk
      subst hk'
      rw [hh] at hh'
      simp only [Option.some.injEq, Obj.cells.injEq] at hh'
      exact hne hh'.2.1
/-- The image that is being built. -/
def Mid (w1 : World) (B g : Nat) (gv rv0 rv : Value) (rs : List Rout) (xs : List Value) (W : World) : Prop :=
  Blk W g 43 #[gv, rv0] ∧ B ≤ g ∧ W.ownsRow B 76 2 rv rs.length xs ∧ RCells W B xs rs ∧ Below B w1 W ∧ B ≤ W.heap.size
section
variable {w1 W W' : World} {B g : Nat} {gv rv0 rv : Value} {rs : List Rout} {xs : List Value}
theorem Mid.below (h : Mid w1 B g gv rv0 rv rs xs W) (hb : Below W.heap.size W W') : Mid w1 B g gv rv0 rv rs xs W' := by
  obtain ⟨h1, h2, h3, h4, h5, h6⟩ := h
  exact ⟨h1.below hb h1.lt, h2, row_lt h3 hb, h4.mono (fun _ _ h => h.below hb rfl), h5.trans (hb.mono h6), Nat.le_trans h6 hb.size⟩
theorem Mid.alloc (h : Mid w1 B g gv rv0 rv rs xs W) (o : Obj) : Mid w1 B g gv rv0 rv rs xs (W.alloc o) := h.below ((Below.refl _ _).alloc (Nat.le_refl _) _)
theorem Mid.app (h : Mid w1 B g gv rv0 rv rs xs W) {n : ByteArray} {cv v' : Value} {bs : List Int} {H : Nat} (hc : OwnB W B cv bs) (hap : Appended W B 76 2 rv (rs.length + 1) (xs ++ [.string n, cv]) H v' W') :
    Mid w1 B g gv rv0 v' (rs ++ [⟨n, bs⟩]) (xs ++ [.string n, cv]) W' := by
  obtain ⟨h1, h2, h3, h4, h5, h6⟩ := h
  refine ⟨hap.blk h3 h1 (by decide), h2, by rw [List.length_append]; exact hap.own, ?_, h5.trans hap.below, Nat.le_trans h6 hap.below.size⟩
  exact (h4.snoc hc).mono fun _ _ ho => hap.row ho (own_apart ho h3 (by decide))
theorem Mid.set (h : Mid w1 B g gv rv0 rv rs xs W) (u : Value) : Mid w1 B g gv u rv rs xs (W.setCell ⟨g, 1, none⟩ u) := by
  obtain ⟨h1, h2, h3, h4, h5, h6⟩ := h
  exact ⟨h1.set_ 1 u, h2, row_far h3 h1 (by decide) u, h4.mono fun _ _ ho => row_far ho h1 (by decide) u, h5.setCell h2 u, by simpa using h6⟩
theorem Mid.routs (h : Mid w1 B g gv rv0 rv rs xs W) {V : World} (hV : Turn B W V) : RoutsAt V W.heap.size rv rs := by
  obtain ⟨h1, h2, h3, h4, h5, h6⟩ := h
  have hc := fun {b : Nat} (hg : rv.ownBlock = some b) => World.ownsRow.cells h3 hg
  rcases h3.2 with ⟨rfl, hn⟩ | ⟨b, cap, cur, rfl, hb, hgg, hnc, hcm, _, _⟩
  · exact ⟨none, 0, by rw [hn], by omega, by omega, fun h => by omega⟩
  · refine ⟨some ⟨b, 0, none⟩, cap, rfl, hnc, by unfold maxLen at hcm; omega, fun _ => ⟨b, 0, rfl, ?_, fun k r hk => ?_⟩⟩
    · rcases Nat.lt_or_ge b W.heap.size with h | h
      · exact h
      · rw [Array.getElem?_eq_none h] at hgg; cases hgg
    · have hcell : ∀ (j : Nat) (u : Value), xs[j]? = some u → W.cell? ⟨b, j, none⟩ = some u := fun j u hj => by
        have := hc (b := b) rfl j u hj
        rw [← this]
        unfold Addr.add
        split <;> simp_all
      obtain ⟨cv, e1, e2, e3⟩ := h4.get hk
      rw [Nat.zero_add]
      exact ⟨cv, hV _ _ _ hb (hcell _ _ e1), hV _ _ _ hb (hcell _ _ e2), e3.turn hV⟩
end
/-- Coding raw numbers, in every later world. -/
def CodeFrom (w : World) (v : Value) (la : List Int) (n : Nat) : Prop := ∀ W, Below w.heap.size w W → Calls Tryz.prog 13 #[v, .int .i64 (n : Int), .int .i64 3] W fun e w' => ∃ v', e = .returned v' ∧ OwnMacs w' W.heap.size v' (codeOf la n 3) ∧ Below W.heap.size W w'
theorem codeFrom {w : World} {v : Value} {la : List Int} {n : Nat} (hv : IntsAt w w.heap.size v la) (hx : ∀ x ∈ la, I64 x) (hn : n ≤ 1000) : CodeFrom w v la n := fun W hW =>
  CodeOf_any v la n n 3 W rfl ((hv.below hW (Nat.le_refl _)).more hW.size) hx hn (by omega) (by omega)
theorem codeBytesOf {w : World} {v : Value} {la : List Int} {n lo : Nat} (hv : OwnMacs w lo v (codeOf la n 3)) (hx : ∀ x ∈ la, I64 x) (hn : n ≤ 1000) :
    Calls Tryz.prog 41 #[v] w fun e w' => ∃ A c, e = .returned (.slice A (codeL (codeOf la n 3)).length c) ∧ OwnB w' w.heap.size (.slice A (codeL (codeOf la n 3)).length c) (codeL (codeOf la n 3)) ∧ Below w.heap.size w w' := by
  obtain ⟨hl5, hw⟩ := writes_of_check (show (checkS (codeOf la n 3)).1 = 0 by rw [codeOf_ok la n 3 (by omega) (by omega)]) (codeOf_i64 la n 3 (by omega) (by unfold I64; omega) hx (by omega))
  refine (CodeBytes_any v _ w hv.macs hw hl5).mono ?_
  rintro e w' ⟨v', rfl, hb, hbw⟩
  rw [codeOf_bytes la n hn] at hb
  obtain ⟨A, c, rfl, _⟩ := hb.bytes
  exact ⟨A, c, rfl, hb, hbw⟩
theorem infoRout : (Tryz.prog.info? 76).map (fun i => (i.zero, i.size, i.bytes)) = some (some (.agg #[.string ⟨#[]⟩, .slice none 0 0]), 2, 40) := by kernel_rfl
set_option maxRecDepth 100000 in
set_option maxHeartbeats 2000000 in
theorem ImageOf_any (va vb vc : Value) (la lb lc : List Int) (n : Nat) (w : World) (ha : IntsAt w w.heap.size va la) (hb : IntsAt w w.heap.size vb lb) (hc : IntsAt w w.heap.size vc lc)
    (hia : ∀ x ∈ la, I64 x) (hib : ∀ x ∈ lb, I64 x) (hic : ∀ x ∈ lc, I64 x) (hn : n ≤ 1000) : Calls Tryz.prog 20 #[va, vb, vc, .int .i64 (n : Int)] w (ImgPost w kGlobs (imgR la lb lc n)) := by
  have HCa := Lib.hid (codeFrom ha hia hn)
  have HCb := Lib.hid (codeFrom hb hib hn)
  have HCc := Lib.hid (codeFrom hc hic hn)
  have HBa : Hid (∀ {w : World} {v : Value} {lo : Nat}, OwnMacs w lo v (codeOf la n 3) → Calls Tryz.prog 41 #[v] w fun e w' => ∃ A c, e = .returned (.slice A (codeL (codeOf la n 3)).length c) ∧ OwnB w' w.heap.size (.slice A (codeL (codeOf la n 3)).length c) (codeL (codeOf la n 3)) ∧ Below w.heap.size w w') := Lib.hid fun h => codeBytesOf h hia hn
  have HBb : Hid (∀ {w : World} {v : Value} {lo : Nat}, OwnMacs w lo v (codeOf lb n 3) → Calls Tryz.prog 41 #[v] w fun e w' => ∃ A c, e = .returned (.slice A (codeL (codeOf lb n 3)).length c) ∧ OwnB w' w.heap.size (.slice A (codeL (codeOf lb n 3)).length c) (codeL (codeOf lb n 3)) ∧ Below w.heap.size w w') := Lib.hid fun h => codeBytesOf h hib hn
  have HBc : Hid (∀ {w : World} {v : Value} {lo : Nat}, OwnMacs w lo v (codeOf lc n 3) → Calls Tryz.prog 41 #[v] w fun e w' => ∃ A c, e = .returned (.slice A (codeL (codeOf lc n 3)).length c) ∧ OwnB w' w.heap.size (.slice A (codeL (codeOf lc n 3)).length c) (codeL (codeOf lc n 3)) ∧ Below w.heap.size w w') := Lib.hid fun h => codeBytesOf h hic hn
  obtain ⟨PE, hPE⟩ : ∃ PE, ImgPost w kGlobs (imgR la lb lc n) = PE := ⟨_, rfl⟩
  rw [hPE]
  have HPE := Lib.hid hPE
  have HA : Hid (Below w.heap.size w (w.alloc (.cells #[.slice none 0 0, .slice none 0 0] 43))) := Lib.hid ((Below.refl _ _).alloc (Nat.le_refl _) _)
  have HK : Hid (Blk (w.alloc (.cells #[.slice none 0 0, .slice none 0 0] 43)) w.heap.size 43 #[.slice none 0 0, .slice none 0 0]) := Lib.hid (Blk.new _ _ _)
  obtain ⟨ca, hca⟩ : ∃ l, codeL (codeOf la n 3) = l := ⟨_, rfl⟩
  obtain ⟨cb, hcb⟩ : ∃ l, codeL (codeOf lb n 3) = l := ⟨_, rfl⟩
  obtain ⟨cc, hcc⟩ : ∃ l, codeL (codeOf lc n 3) = l := ⟨_, rfl⟩
  rw [hca] at HBa
  rw [hcb] at HBb
  rw [hcc] at HBc
  have HR : Hid (imgR la lb lc n = [⟨mainB, ca⟩, ⟨⟨#[102]⟩, cb⟩, ⟨⟨#[107]⟩, cc⟩]) := Lib.hid (by unfold imgR; rw [hca, hcb, hcc])
  clear ha hb hc hia hib hic hPE hca hcb hcc
  go_enter Tryz.func20, Tryz.ntmps20
  go_wp2_with fail
  generalize w.alloc (.cells #[.slice none 0 0, .slice none 0 0] 43) = W at *
  refine (KGlobals_any W).mono ?_
  rintro e w1 ⟨Ag, ng, cg, rfl, hg, hb1⟩
  have HG := Lib.hid hg
  have HK1 := Lib.hid (HK.out.below hb1 HK.out.lt)
  have HzW : Hid (w.heap.size < W.heap.size ∧ W.heap.size ≤ w1.heap.size) := Lib.hid ⟨HK.out.lt, hb1.size⟩
  have HB1 := Lib.hid (HA.out.trans (hb1.mono HA.out.size))
  clear hg hb1
  go_upto_region 2 with fail
  have HM0 : Hid (Mid w1 w1.heap.size w1.heap.size (.slice Ag ng cg) (.slice none 0 0) (.slice none 0 0) [] [] (w1.alloc (.cells #[.slice Ag ng cg, .slice none 0 0] 43))) :=
    Lib.hid ⟨Blk.new _ _ _, Nat.le_refl _, World.ownsRow_nil _ _ _ _, trivial, (Below.refl _ _).alloc (Nat.le_refl _) _, by simp⟩
  generalize w1.alloc (.cells #[.slice Ag ng cg, .slice none 0 0] 43) = W2 at *
  have c1 := HM0.out.1.cell 1
  have f1 := HM0.out.1.frozen 1
  go_cut [] (fun wx => ∃ A c xs, Hid (Mid w1 w1.heap.size w1.heap.size (.slice Ag ng cg) (.slice A 1 c) (.slice A 1 c) [⟨mainB, ca⟩] xs wx))
  case first =>
    go_region_law (first
      | (refine step_app_src (by rfl) (.tmp 13) (.tmp 19) 41 76 (by rfl) (.agg #[.string ⟨#[]⟩, .slice none 0 0]) 2 40 Tryz.underlying41 infoRout rfl (by decide) (by decide) w1.heap.size (.slice none 0 0) 0 [] (by rfl) (HM4.out.alloc _).2.2.1 (some ⟨w4.heap.size, 0, none⟩) 1 1 [.string ⟨#[109, 97, 105, 110]⟩, .slice Ac ca.length cc'] (by rfl) (by rfl) (fun _ => ⟨_, rfl, cells_new w4 [.string ⟨#[109, 97, 105, 110]⟩, .slice Ac ca.length cc'] 76 w4.heap.size rfl⟩) (fun u hu => by simp at hu; rcases hu with rfl | rfl <;> rfl) (by decide) (HM4.out.alloc _).2.2.2.2.2 (w4.heap.size + 1) (by simp) ?_; intro B5 c5 w5 HA5; have HM5 := Lib.hid ((HM4.out.alloc (.cells #[.string ⟨#[109, 97, 105, 110]⟩, .slice Ac ca.length cc'] 76)).app (n := mainB) (HO4.out.below ((Below.refl _ _).alloc (Nat.le_refl _) _) rfl) HA5.out); have f1 := HM5.out.1.frozen 1; have c1 := HM5.out.1.cell 1)
      | (go_simp; go_at_call 13; refine (HCa.out W2.drew (below_drew (HB1.out.trans (HM0.out.2.2.2.2.1.mono HB1.out.size)))).mono ?_; rintro e w3 ⟨v3, rfl, ho3, hb3⟩; have HO3 := Lib.hid ho3; have HM3 := Lib.hid ((HM0.out.below (below_drew (Below.refl _ _))).below hb3); have c1 := HM3.out.1.cell 1; clear ho3 hb3)
      | (go_simp; go_at_call 41; refine (HBa.out HO3.out).mono ?_; rintro e w4 ⟨Ac, cc', rfl, ho4, hb4⟩; have HO4 := Lib.hid (ho4.more HM3.out.2.2.2.2.2); have HM4 := Lib.hid (HM3.out.below hb4); have c1 := HM4.out.1.cell 1; have c1a := (HM4.out.1.alloc (.cells #[.string ⟨#[109, 97, 105, 110]⟩, .slice Ac ca.length cc'] 76)).cell 1; clear ho4 hb4))
    all_goals
      go_wp2_with fail
      go_meet
      exact ⟨B5, c5, _, Lib.hid (HM5.out.set _)⟩
  obtain ⟨A1, c1', xs1, HM1⟩ := hcut
  clear c1 f1
  go_upto_region 3 with fail
  have c1 := HM1.out.1.cell 1
  have f1 := HM1.out.1.frozen 1
  go_cut [] (fun wx => ∃ A c xs, Hid (Mid w1 w1.heap.size w1.heap.size (.slice Ag ng cg) (.slice A 2 c) (.slice A 2 c) [⟨mainB, ca⟩, ⟨⟨#[102]⟩, cb⟩] xs wx))
  case first =>
    go_region_law (first
      | (refine step_app_src (by rfl) (.tmp 23) (.tmp 29) 41 76 (by rfl) (.agg #[.string ⟨#[]⟩, .slice none 0 0]) 2 40 Tryz.underlying41 infoRout rfl (by decide) (by decide) w1.heap.size (.slice A1 1 c1') 1 xs1 (by rfl) (HM4.out.alloc _).2.2.1 (some ⟨w4.heap.size, 0, none⟩) 1 1 [.string ⟨#[102]⟩, .slice Ac cb.length cc'] (by rfl) (by rfl) (fun _ => ⟨_, rfl, cells_new w4 [.string ⟨#[102]⟩, .slice Ac cb.length cc'] 76 w4.heap.size rfl⟩) (fun u hu => by simp at hu; rcases hu with rfl | rfl <;> rfl) (by decide) (HM4.out.alloc _).2.2.2.2.2 (w4.heap.size + 1) (by simp) ?_; intro B5 c5 w5 HA5; have HM5 := Lib.hid ((HM4.out.alloc (.cells #[.string ⟨#[102]⟩, .slice Ac cb.length cc'] 76)).app (n := ⟨#[102]⟩) (HO4.out.below ((Below.refl _ _).alloc (Nat.le_refl _) _) rfl) HA5.out); have f1 := HM5.out.1.frozen 1; have c1 := HM5.out.1.cell 1)
      | (go_simp; go_at_call 13; refine (HCb.out wc.drew (below_drew (HB1.out.trans (HM1.out.2.2.2.2.1.mono HB1.out.size)))).mono ?_; rintro e w3 ⟨v3, rfl, ho3, hb3⟩; have HO3 := Lib.hid ho3; have HM3 := Lib.hid ((HM1.out.below (below_drew (Below.refl _ _))).below hb3); have c1 := HM3.out.1.cell 1; clear ho3 hb3)
      | (go_simp; go_at_call 41; refine (HBb.out HO3.out).mono ?_; rintro e w4 ⟨Ac, cc', rfl, ho4, hb4⟩; have HO4 := Lib.hid (ho4.more HM3.out.2.2.2.2.2); have HM4 := Lib.hid (HM3.out.below hb4); have c1 := HM4.out.1.cell 1; have c1a := (HM4.out.1.alloc (.cells #[.string ⟨#[102]⟩, .slice Ac cb.length cc'] 76)).cell 1; clear ho4 hb4))
    all_goals
      go_wp2_with fail
      go_meet
      exact ⟨B5, c5, _, Lib.hid (HM5.out.set _)⟩
  obtain ⟨A2, c2', xs2, HM2⟩ := hcut
  clear c1 f1
  go_upto_region 4 with fail
  have c0 := HM2.out.1.cell 0
  have c1 := HM2.out.1.cell 1
  go_cut [] (fun wx => ∃ A c xs w5, Hid (Mid w1 w1.heap.size w1.heap.size (.slice Ag ng cg) (.slice A2 2 c2') (.slice A 3 c) [⟨mainB, ca⟩, ⟨⟨#[102]⟩, cb⟩, ⟨⟨#[107]⟩, cc⟩] xs w5) ∧ wx = (w5.setCell ⟨w.heap.size, 0, none⟩ (.slice Ag ng cg)).setCell ⟨w.heap.size, 1, none⟩ (.slice A 3 c))
  case first =>
    go_region_law (first
      | (refine step_app_src (by rfl) (.tmp 35) (.tmp 41) 41 76 (by rfl) (.agg #[.string ⟨#[]⟩, .slice none 0 0]) 2 40 Tryz.underlying41 infoRout rfl (by decide) (by decide) w1.heap.size (.slice A2 2 c2') 2 xs2 (by rfl) (HM4.out.alloc _).2.2.1 (some ⟨w4.heap.size, 0, none⟩) 1 1 [.string ⟨#[107]⟩, .slice Ac cc.length cc'] (by rfl) (by rfl) (fun _ => ⟨_, rfl, cells_new w4 [.string ⟨#[107]⟩, .slice Ac cc.length cc'] 76 w4.heap.size rfl⟩) (fun u hu => by simp at hu; rcases hu with rfl | rfl <;> rfl) (by decide) (HM4.out.alloc _).2.2.2.2.2 (w4.heap.size + 1) (by simp) ?_; intro B5 c5 w5 HA5; have HM5 := Lib.hid ((HM4.out.alloc (.cells #[.string ⟨#[107]⟩, .slice Ac cc.length cc'] 76)).app (n := ⟨#[107]⟩) (HO4.out.below ((Below.refl _ _).alloc (Nat.le_refl _) _) rfl) HA5.out); have f80 := (HK1.out.below HM5.out.2.2.2.2.1 HK1.out.lt).frozen 0; have f81 := (HK1.out.below HM5.out.2.2.2.2.1 HK1.out.lt).frozen 1; have d80 := (HK1.out.below HM5.out.2.2.2.2.1 HK1.out.lt).cell 0; have d81 := (HK1.out.below HM5.out.2.2.2.2.1 HK1.out.lt).cell 1; have c0 := HM5.out.1.cell 0; have c1 := HM5.out.1.cell 1)
      | (go_simp; go_at_call 13; refine (HCc.out wc.drew (below_drew (HB1.out.trans (HM2.out.2.2.2.2.1.mono HB1.out.size)))).mono ?_; rintro e w3 ⟨v3, rfl, ho3, hb3⟩; have HO3 := Lib.hid ho3; have HM3 := Lib.hid ((HM2.out.below (below_drew (Below.refl _ _))).below hb3); have c0 := HM3.out.1.cell 0; have c1 := HM3.out.1.cell 1; clear ho3 hb3)
      | (go_simp; go_at_call 41; refine (HBc.out HO3.out).mono ?_; rintro e w4 ⟨Ac, cc', rfl, ho4, hb4⟩; have HO4 := Lib.hid (ho4.more HM3.out.2.2.2.2.2); have HM4 := Lib.hid (HM3.out.below hb4); have c0 := HM4.out.1.cell 0; have c1 := HM4.out.1.cell 1; have c0a := (HM4.out.1.alloc (.cells #[.string ⟨#[107]⟩, .slice Ac cc.length cc'] 76)).cell 0; have c1a := (HM4.out.1.alloc (.cells #[.string ⟨#[107]⟩, .slice Ac cc.length cc'] 76)).cell 1; clear ho4 hb4))
    all_goals
      go_wp2_with fail
      go_meet
      exact ⟨B5, c5, _, w5, HM5, rfl⟩
  obtain ⟨A3, c3, xs3, w5, HM5, rfl⟩ := hcut
  clear c0 c1
  have HK5 := Lib.hid (HK1.out.below HM5.out.2.2.2.2.1 HK1.out.lt)
  go_wp2_with fail
  refine end_cell rfl rfl (HK5.out.set2 _ _) Tryz.underlying43 rfl (by kernel_rfl) rfl ?_
  rw [← HPE.out, HR.out]
  obtain ⟨z0, z1⟩ := HzW.out
  have hB5 := HM5.out.2.2.2.2.1
  have hz : ((w5.setCell ⟨w.heap.size, 0, none⟩ (.slice Ag ng cg)).setCell ⟨w.heap.size, 1, none⟩ (.slice A3 3 c3)).heap.size = w5.heap.size := by simp
  have hT : Turn W.heap.size w5 ((w5.setCell ⟨w.heap.size, 0, none⟩ (.slice Ag ng cg)).setCell ⟨w.heap.size, 1, none⟩ (.slice A3 3 c3)) := (Turn.low w5 _ z0).trans (Turn.low _ _ z0)
  refine ⟨_, _, rfl, fun V hV => ?_, ((HB1.out.trans (hB5.mono HB1.out.size)).setCell (Nat.le_refl _) _).setCell (Nat.le_refl _) _⟩
  have hV5 : Turn W.heap.size w5 V := hT.trans (hV.more (by omega))
  rw [hz]
  exact ⟨(HG.out V ((Turn.of_below hB5).trans hV5)).more hB5.size, HM5.out.routs (hV5.more z1)⟩
end Go.Proofs.YtdldochhondifaaGreatDoor
namespace Go.Proofs.YtdldochhondifaaGreatDoor
open Go.RowKit

/-- From s to t: what has been told does not turn before the end, the end is no hunger, and what has been printed stays. -/
def Tells (s t : Mch) : Prop := (t.over = false → t.state = s.state ∧ t.value = s.value) ∧ (t.over = true → s.over = false → t.state ≠ 1) ∧ s.out <+: t.out
theorem Tells.same {s t : Mch} (h0 : t.over = s.over) (h1 : t.state = s.state) (h2 : t.value = s.value) (h3 : s.out <+: t.out) : Tells s t :=
  ⟨fun _ => ⟨h1, h2⟩, fun h h' => (by rw [h0, h'] at h; cases h), h3⟩
section
variable {la lb lc : List Int} {n : Nat}
theorem codeOf_near (hn : n ≤ 1000) (l : List Int) : (codeOf l n 3).any (farB 3) = false := by
  rw [List.any_eq_false]
  intro m hm
  have := codeOf_ok l n 3 (by omega) (by omega)
  obtain ⟨j, hj⟩ := List.mem_iff_getElem?.1 hm
  rcases codeOf_get l n 3 j m hj with ⟨a, b, c, _, rfl, _, _, _⟩ | ⟨_, rfl⟩
  · unfold farB macOf
    simp only [Bool.and_eq_true, beq_iff_eq, decide_eq_true_eq, not_and, Int.not_le]
    intro h44
    unfold numOf
    rw [h44, if_pos (show hasS (fldS 44) 114 = true by decide +kernel)]
    omega
  · decide
theorem img_rok (ha : ∀ x ∈ la, I64 x) (hb : ∀ x ∈ lb, I64 x) (hc : ∀ x ∈ lc, I64 x) (hn : n ≤ 1000) : ROk (imgR la lb lc n) := by
  have key : ∀ l : List Int, (∀ x ∈ l, I64 x) → BytesOk (codeL (codeOf l n 3)) := fun l hl =>
    codeL_bytes (by rw [codeOf_ok l n 3 (by omega) (by omega)]) (codeOf_i64 l n 3 (by omega) (by unfold I64; omega) hl (by omega))
  intro r hr
  simp only [imgR, List.mem_cons, List.not_mem_nil, or_false] at hr
  rcases hr with rfl | rfl | rfl
  · exact ⟨by show mainB.size ≤ _; decide, key la ha⟩
  · exact ⟨by show (⟨#[102]⟩ : ByteArray).size ≤ _; decide, key lb hb⟩
  · exact ⟨by show (⟨#[107]⟩ : ByteArray).size ≤ _; decide, key lc hc⟩
theorem img_read (l : List Int) (hl : ∀ x ∈ l, I64 x) (hn : n ≤ 1000) : readL (codeL (codeOf l n 3)) = ((0, 0), codeOf l n 3) :=
  read_codeL (by rw [codeOf_ok l n 3 (by omega) (by omega)]) (codeOf_i64 l n 3 (by omega) (by unfold I64; omega) hl (by omega))
theorem img_fine (ha : ∀ x ∈ la, I64 x) (hb : ∀ x ∈ lb, I64 x) (hc : ∀ x ∈ lc, I64 x) (hn : n ≤ 1000) : machF kGlobs (imgR la lb lc n) = (0, 0) := by
  refine machF_ok (by rw [kGlobs_fine]) (by simp [imgR]) (by simp [imgR]) fun j hj => ?_
  have hj3 : j < 3 := hj
  have key : ∀ (k : Nat) (pre : List Rout) (nm : ByteArray) (l : List Int), (∀ x ∈ l, I64 x) → rNameBad k nm = false → (rHadG kGlobs nm || rHadR pre nm) = false → rBad kGlobs 3 k pre ⟨nm, codeL (codeOf l n 3)⟩ = 0 := fun k pre nm l hl h1 h2 => by
    refine rBad_ok h1 h2 ?_ ?_
    · rw [img_read l hl hn]
    · rw [img_read l hl hn]
      exact codeOf_near hn l
  match j, hj3 with
  | 0, _ => exact key 0 [] mainB la ha main_name (by rw [main_had]; rfl)
  | 1, _ => exact key 1 _ _ lb hb (by decide +kernel) (by rw [Bool.or_eq_false_iff]; exact ⟨by decide +kernel, by simp [rHadR, imgR, mainB]⟩)
  | 2, _ => exact key 2 _ _ lc hc (by decide +kernel) (by rw [Bool.or_eq_false_iff]; exact ⟨by decide +kernel, by simp [rHadR, imgR, mainB]⟩)
  | k + 3, h => omega
end
end Go.Proofs.YtdldochhondifaaGreatDoor
