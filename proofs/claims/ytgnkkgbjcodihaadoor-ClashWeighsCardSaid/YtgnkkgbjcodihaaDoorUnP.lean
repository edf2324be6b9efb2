/-
  PLAIN: units, and what code.Check says of them.
  Conditions: none.
-/
import Derived.Test.YtgnkkgbjcodihaaDoorUnK
namespace Go.Proofs.YtgnkkgbjcodihaaDoor
open Go.RowKit

structure Opd where
  reg : Bool
  n : Int
deriving DecidableEq
structure InsU where
  op : Int
  dst : Int
  a : Opd
  b : Opd
  fn : Int
  args : List Opd
structure PhiU where
  dst : Int
  from_ : List Opd
structure BlkU where
  phis : List PhiU
  list : List InsU
  kind : Int
  on : Opd
  to : List Int
structure FunU where
  name : ByteArray
  params : Int
  regs : Int
  blocks : List BlkU
def Opd.zero : Opd := ⟨false, 0⟩
def BlkU.none : BlkU := ⟨[], [], 0, ⟨false, 0⟩, []⟩
/-- The first fault of a row, its code alone. -/
def badOf {α : Type} (f : Nat → α → Int) (l : List α) (k : Nat) : Int := match l[k]? with
  | some x => f k x
  | none => 0
def firstE {α : Type} (f : Nat → α → Int) (l : List α) : Int := (firstBad (badOf f l) l.length).1
section
variable {α : Type} {f : Nat → α → Int} {l : List α}
theorem badOf_at {k : Nat} {x : α} (h : l[k]? = some x) : badOf f l k = f k x := by unfold badOf; rw [h]
theorem firstE_hit {k : Nat} {x : α} (hk : l[k]? = some x) (h : f k x ≠ 0) (hb : ∀ j, j < k → badOf f l j = 0) : firstE f l = f k x := by
  unfold firstE
  rw [firstBad_hit (List.getElem?_eq_some_iff.1 hk).1 (by rw [badOf_at hk]; exact h) hb, badOf_at hk]
theorem firstE_ok (hb : ∀ j, j < l.length → badOf f l j = 0) : firstE f l = 0 := by
  unfold firstE
  rw [firstBad_ok hb]
theorem bad_step {k : Nat} {x : α} (hk : l[k]? = some x) (h : f k x = 0) (hb : ∀ j, j < k → badOf f l j = 0) : ∀ j, j < k + 1 → badOf f l j = 0 := fun j hj => by
  rcases Nat.lt_or_ge j k with h1 | h1
  · exact hb j h1
  · obtain rfl : j = k := by omega
    rw [badOf_at hk, h]
theorem firstBad_zero {bad : Nat → Int} {n : Nat} (h : (firstBad bad n).1 = 0) : ∀ j, j < n → bad j = 0 := fun j hj => by
  unfold firstBad at h
  cases hf : (List.range n).find? (fun i => bad i != 0) with
  | none =>
    rw [List.find?_eq_none] at hf
    have := hf j (by simpa using hj)
    simpa using this
  | some i =>
    rw [hf] at h
    have := List.find?_some hf
    simp only [bne_iff_ne, ne_eq] at this
    exact absurd h this
theorem firstE_zero (h : firstE f l = 0) {k : Nat} {x : α} (hk : l[k]? = some x) : f k x = 0 := by
  have := firstBad_zero h k (List.getElem?_eq_some_iff.1 hk).1
  rwa [badOf_at hk] at this
end
/-- A number between two others? -/
def inB (n lo hi : Int) : Bool := decide (lo ≤ n ∧ n ≤ hi)
def valE (regs : Int) (v : Opd) : Int := if v.reg = true ∧ inB v.n 0 (regs - 1) = false then 3 else 0
def dstE (regs n : Int) : Int := if inB n 0 (regs - 1) = false then 3 else 0
def waysU (kind : Int) : Nat := if kind = 2 then 1 else if kind = 3 then 2 else 0
def endE (nb regs : Int) (b : BlkU) : Int :=
  if inB b.kind 1 3 = false then 4 else if b.to.length ≠ waysU b.kind then 9 else if (b.to.any fun n => !inB n 1 (nb - 1)) = true then 3
  else if (b.kind = 3 ∧ b.to.getD 0 0 = b.to.getD 1 0) ∨ (b.kind = 2 ∧ b.on ≠ Opd.zero) then 5 else valE regs b.on
/-- Targets of a block, put down for each. -/
def aheadT (i : Nat) (to : List Int) (F : Nat → List Int) : Nat → List Int := to.foldl (fun (F : Nat → List Int) (t : Int) (q : Nat) => if ((q : Nat) : Int) = t then F q ++ [((i : Nat) : Int)] else F q) F
/-- Which blocks lead to each: the first k blocks looked at. -/
def aheadF (blocks : List BlkU) : Nat → Nat → List Int
  | 0 => fun _ => []
  | k + 1 => aheadT k (match blocks[k]? with | some b => b.to | none => []) (aheadF blocks k)
def aheadU (blocks : List BlkU) : List (List Int) := (List.range blocks.length).map (aheadF blocks blocks.length)
def phiE (regs : Int) (ahead : List (List Int)) (block : Nat) (p : PhiU) : Int :=
  if block = 0 then 5 else if dstE regs p.dst ≠ 0 then dstE regs p.dst else if p.from_.length ≠ (ahead.getD block []).length then 9 else firstE (fun _ v => valE regs v) p.from_
/-- Does an instruction of a kind have a Dst, an A, a B? -/
def hasD (op : Int) : Bool := decide (op = 1 ∨ op = 16 ∨ op = 17 ∨ op = 18 ∨ (2 ≤ op ∧ op ≤ 15) ∨ op = 20 ∨ op = 21)
def hasA (op : Int) : Bool := decide (op = 1 ∨ op = 16 ∨ op = 17 ∨ op = 18 ∨ (2 ≤ op ∧ op ≤ 15) ∨ op = 19 ∨ op = 22)
def hasB (op : Int) : Bool := decide ((2 ≤ op ∧ op ≤ 15) ∨ op = 19)
def argE (ps : List Int) (regs : Int) (x : InsU) : Int :=
  if x.op ≠ 20 then 0 else if inB x.fn 0 ((ps.length : Int) - 1) = false then 3 else if (x.args.length : Int) ≠ ps.getD x.fn.toNat 0 then 9 else firstE (fun _ v => valE regs v) x.args
def insE (ps : List Int) (regs : Int) (x : InsU) : Int :=
  if inB x.op 1 22 = false then 4
  else if (hasD x.op = false ∧ x.dst ≠ -1) ∨ (hasA x.op = false ∧ x.a ≠ Opd.zero) ∨ (hasB x.op = false ∧ x.b ≠ Opd.zero) ∨ (x.op ≠ 20 ∧ (x.fn ≠ 0 ∨ 0 < x.args.length)) then 5
  else if hasD x.op = true ∧ ¬ (x.op = 20 ∧ x.dst = -1) ∧ dstE regs x.dst ≠ 0 then dstE regs x.dst
  else if valE regs x.a ≠ 0 then valE regs x.a else if valE regs x.b ≠ 0 then valE regs x.b else argE ps regs x
def blkE (ps : List Int) (regs : Int) (ahead : List (List Int)) (i : Nat) (b : BlkU) : Int :=
  if firstE (fun _ p => phiE regs ahead i p) b.phis ≠ 0 then firstE (fun _ p => phiE regs ahead i p) b.phis else firstE (fun _ x => insE ps regs x) b.list
def bodyE (ps : List Int) (f : FunU) : Int :=
  if firstE (fun _ b => endE (f.blocks.length : Int) f.regs b) f.blocks ≠ 0 then firstE (fun _ b => endE (f.blocks.length : Int) f.regs b) f.blocks
  else firstE (fun i b => blkE ps f.regs (aheadU f.blocks) i b) f.blocks
def manyU (blocks : List BlkU) : Nat := (blocks.map fun b => b.phis.length + b.list.length).sum
def headE (had : List ByteArray) (f : FunU) : Int :=
  if nameS f.name = false then 12 else if (had.any fun h => h.toList == f.name.toList) = true then 7
  else if ¬ (0 ≤ f.params ∧ f.params ≤ 6) ∨ ¬ (f.params ≤ f.regs ∧ f.regs ≤ 100) then 3 else if ¬ (1 ≤ f.blocks.length ∧ f.blocks.length ≤ 40) ∨ 300 < manyU f.blocks then 2 else 0
def mainU (s : ByteArray) : Bool := s.toList == [109, 97, 105, 110]
def mainF (fs : List FunU) : Int × Int := match (List.range fs.length).find? (fun i => match fs[i]? with | some f => mainU f.name | none => false) with
  | none => (6, 0)
  | some i => if 0 < (fs.map FunU.params).getD i 0 then (5, (i : Int)) else (0, 0)
/-- What code.Check says. -/
def unitF (gs : List Glob) (fs : List FunU) : Int × Int :=
  if 10 < gs.length ∨ 10 < fs.length then (2, 0)
  else if (globF gs).1 ≠ 0 then globF gs
  else if (firstBad (badOf (fun i f => headE (gs.map Glob.name ++ (fs.take i).map FunU.name) f) fs) fs.length).1 ≠ 0 then firstBad (badOf (fun i f => headE (gs.map Glob.name ++ (fs.take i).map FunU.name) f) fs) fs.length
  else if (firstBad (badOf (fun _ f => bodyE (fs.map FunU.params) f) fs) fs.length).1 ≠ 0 then firstBad (badOf (fun _ f => bodyE (fs.map FunU.params) f) fs) fs.length
  else mainF fs
end Go.Proofs.YtgnkkgbjcodihaaDoor
