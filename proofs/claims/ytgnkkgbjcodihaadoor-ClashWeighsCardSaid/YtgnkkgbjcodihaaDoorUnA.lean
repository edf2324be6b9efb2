/-
  Units in memory: what a unit's values read as.
  Conditions: none.
-/
import Derived.Test.YtgnkkgbjcodihaaDoorUnP
namespace Go.Proofs.YtgnkkgbjcodihaaDoor
open Go.RowKit

/-- The cells of blocks below B stand. -/
def Kept (w w1 : World) (B : Nat) : Prop := ∀ b o, b < B → w1.cell? ⟨b, o, none⟩ = w.cell? ⟨b, o, none⟩
theorem kept_of {W w1 : World} {B B' : Nat} (hb : Below B' W w1) (hB : B ≤ B') : Kept W w1 B := fun _ _ h => bcell hb (Nat.lt_of_lt_of_le h hB)
/-- The slice value v reads as the things xs, each of so many cells, below block B. -/
def SlAt {α : Type} (size : Nat) (P : World → Nat → List Value → α → Prop) (w : World) (B : Nat) (v : Value) (xs : List α) : Prop :=
  ∃ (A : Option Addr) (c : Nat), v = .slice A xs.length c ∧ xs.length ≤ c ∧ c ≤ 140737488351232 ∧
    (0 < xs.length → ∃ b off, A = some ⟨b, off, none⟩ ∧ b < B ∧ ∀ (k : Nat) (x : α), xs[k]? = some x → ∃ us, P w B us x ∧ ∀ (j : Nat) (u : Value), us[j]? = some u → w.cell? ⟨b, off + k * size + j, none⟩ = some u)
section
variable {α : Type} {size : Nat} {P : World → Nat → List Value → α → Prop} {w w1 : World} {B B' : Nat} {v : Value} {xs : List α}
theorem SlAt.move (h : SlAt size P w B v xs) (hB : B ≤ B') (hk : Kept w w1 B) (hP : ∀ us x, P w B us x → P w1 B' us x) : SlAt size P w1 B' v xs := by
  obtain ⟨A, c, e, h1, h2, h3⟩ := h
  refine ⟨A, c, e, h1, h2, fun hl => ?_⟩
  obtain ⟨b, off, e1, e2, e3⟩ := h3 hl
  refine ⟨b, off, e1, by omega, fun k x hx => ?_⟩
  obtain ⟨us, hp, hc⟩ := e3 k x hx
  exact ⟨us, hP _ _ hp, fun j u hu => (hk _ _ e2).trans (hc j u hu)⟩
theorem SlAt.form (h : SlAt size P w B v xs) : ∃ A c, v = .slice A xs.length c ∧ xs.length ≤ c ∧ c ≤ 140737488351232 := by
  obtain ⟨A, c, e, h1, h2, _⟩ := h
  exact ⟨A, c, e, h1, h2⟩
theorem SlAt.at {A : Option Addr} {l c : Nat} (h : SlAt size P w B (.slice A l c) xs) {k : Nat} {x : α} (hx : xs[k]? = some x) : ∃ b off, A = some ⟨b, off, none⟩ ∧ b < B ∧ ∃ us, P w B us x ∧ ∀ (j : Nat) (u : Value), us[j]? = some u → w.cell? ⟨b, off + k * size + j, none⟩ = some u := by
  obtain ⟨A', c', e, h1, h2, h3⟩ := h
  obtain ⟨b, off, e1, e2, e3⟩ := h3 (by have := (List.getElem?_eq_some_iff.1 hx).1; omega)
  cases e
  exact ⟨b, off, e1, e2, e3 k x hx⟩
theorem SlAt.len {A : Option Addr} {l c : Nat} (h : SlAt size P w B (.slice A l c) xs) : xs.length = l := by
  obtain ⟨A', c', e, _⟩ := h
  cases e
  rfl
theorem SlAt.nil (w : World) (B : Nat) : SlAt size P w B (.slice none 0 0) [] := ⟨none, 0, rfl, by simp, by omega, fun h => by simp at h⟩
end
/-- Numbers, as such a slice. -/
theorem IntsAt.move {w w1 : World} {B B' : Nat} {v : Value} {xs : List Int} (h : IntsAt w B v xs) (hB : B ≤ B') (hk : Kept w w1 B) : IntsAt w1 B' v xs := by
  obtain ⟨A, c, e, h1, h2, h3⟩ := h
  refine ⟨A, c, e, h1, h2, fun hl => ?_⟩
  obtain ⟨b, off, e1, e2, e3⟩ := h3 hl
  exact ⟨b, off, e1, by omega, fun k x hx => (hk _ _ e2).trans (e3 k x hx)⟩
theorem GlobsAt.move {w w1 : World} {B B' : Nat} {v : Value} {gs : List Glob} (h : GlobsAt w B v gs) (hB : B ≤ B') (hk : Kept w w1 B) : GlobsAt w1 B' v gs := by
  obtain ⟨A, c, e, h1, h2, h3⟩ := h
  refine ⟨A, c, e, h1, h2, fun hl => ?_⟩
  obtain ⟨b, off, e1, e2, e3⟩ := h3 hl
  refine ⟨b, off, e1, by omega, fun k g hg => ?_⟩
  obtain ⟨iv, c0, c1, c2, hi⟩ := e3 k g hg
  exact ⟨iv, (hk _ _ e2).trans c0, (hk _ _ e2).trans c1, (hk _ _ e2).trans c2, hi.move hB hk⟩
def OpdP (_ : World) (_ : Nat) (us : List Value) (o : Opd) : Prop := us = [.bool o.reg, .int .i64 o.n]
def OpdsAt (w : World) (B : Nat) (v : Value) (os : List Opd) : Prop := SlAt 2 OpdP w B v os
def PhiP (w : World) (B : Nat) (us : List Value) (p : PhiU) : Prop := ∃ fv, us = [.int .i64 p.dst, fv] ∧ OpdsAt w B fv p.from_
def InsP (w : World) (B : Nat) (us : List Value) (x : InsU) : Prop := ∃ av, us = [.int .i64 x.op, .int .i64 x.dst, .bool x.a.reg, .int .i64 x.a.n, .bool x.b.reg, .int .i64 x.b.n, .int .i64 x.fn, av] ∧ OpdsAt w B av x.args
def PhisAt (w : World) (B : Nat) (v : Value) (ps : List PhiU) : Prop := SlAt 2 PhiP w B v ps
def InssAt (w : World) (B : Nat) (v : Value) (xs : List InsU) : Prop := SlAt 8 InsP w B v xs
def BlkP (w : World) (B : Nat) (us : List Value) (b : BlkU) : Prop := ∃ pv lv tv, us = [pv, lv, .int .i64 b.kind, .bool b.on.reg, .int .i64 b.on.n, tv] ∧ PhisAt w B pv b.phis ∧ InssAt w B lv b.list ∧ IntsAt w B tv b.to
def BlksAt (w : World) (B : Nat) (v : Value) (bs : List BlkU) : Prop := SlAt 6 BlkP w B v bs
def FunP (w : World) (B : Nat) (us : List Value) (f : FunU) : Prop := ∃ bv, us = [.string f.name, .int .i64 f.params, .int .i64 f.regs, bv] ∧ BlksAt w B bv f.blocks
def FunsAt (w : World) (B : Nat) (v : Value) (fs : List FunU) : Prop := SlAt 4 FunP w B v fs
section
variable {w w1 : World} {B B' : Nat} {v : Value}
theorem OpdsAt.move {os : List Opd} (h : OpdsAt w B v os) (hB : B ≤ B') (hk : Kept w w1 B) : OpdsAt w1 B' v os := SlAt.move h hB hk fun _ _ h => h
theorem PhiP.move {us : List Value} {p : PhiU} (h : PhiP w B us p) (hB : B ≤ B') (hk : Kept w w1 B) : PhiP w1 B' us p := by
  obtain ⟨fv, e, h⟩ := h
  exact ⟨fv, e, h.move hB hk⟩
theorem InsP.move {us : List Value} {p : InsU} (h : InsP w B us p) (hB : B ≤ B') (hk : Kept w w1 B) : InsP w1 B' us p := by
  obtain ⟨fv, e, h⟩ := h
  exact ⟨fv, e, h.move hB hk⟩
theorem PhisAt.move {ps : List PhiU} (h : PhisAt w B v ps) (hB : B ≤ B') (hk : Kept w w1 B) : PhisAt w1 B' v ps := SlAt.move h hB hk fun _ _ h => h.move hB hk
theorem InssAt.move {ps : List InsU} (h : InssAt w B v ps) (hB : B ≤ B') (hk : Kept w w1 B) : InssAt w1 B' v ps := SlAt.move h hB hk fun _ _ h => h.move hB hk
theorem BlkP.move {us : List Value} {p : BlkU} (h : BlkP w B us p) (hB : B ≤ B') (hk : Kept w w1 B) : BlkP w1 B' us p := by
  obtain ⟨pv, lv, tv, e, h1, h2, h3⟩ := h
  exact ⟨pv, lv, tv, e, h1.move hB hk, h2.move hB hk, h3.move hB hk⟩
theorem BlksAt.move {bs : List BlkU} (h : BlksAt w B v bs) (hB : B ≤ B') (hk : Kept w w1 B) : BlksAt w1 B' v bs := SlAt.move h hB hk fun _ _ h => h.move hB hk
theorem FunP.move {us : List Value} {p : FunU} (h : FunP w B us p) (hB : B ≤ B') (hk : Kept w w1 B) : FunP w1 B' us p := by
  obtain ⟨fv, e, h⟩ := h
  exact ⟨fv, e, h.move hB hk⟩
theorem FunsAt.move {fs : List FunU} (h : FunsAt w B v fs) (hB : B ≤ B') (hk : Kept w w1 B) : FunsAt w1 B' v fs := SlAt.move h hB hk fun _ _ h => h.move hB hk
end
/-- Numbers of the unit are Go's. -/
structure Opd.ok (o : Opd) : Prop where
  n : I64 o.n
structure InsU.ok (x : InsU) : Prop where
  op : I64 x.op
  dst : I64 x.dst
  a : x.a.ok
  b : x.b.ok
  fn : I64 x.fn
  args : ∀ o ∈ x.args, o.ok
structure PhiU.ok (p : PhiU) : Prop where
  dst : I64 p.dst
  from_ : ∀ o ∈ p.from_, o.ok
structure BlkU.ok (b : BlkU) : Prop where
  phis : ∀ p ∈ b.phis, p.ok
  list : ∀ x ∈ b.list, x.ok
  kind : I64 b.kind
  on : b.on.ok
  to : ∀ n ∈ b.to, I64 n
structure FunU.ok (f : FunU) : Prop where
  name : f.name.size ≤ 9223372036854775807
  params : I64 f.params
  regs : I64 f.regs
  blocks : ∀ b ∈ f.blocks, b.ok
end Go.Proofs.YtgnkkgbjcodihaaDoor
