/-
  Loops over iterators whose bodies write maps.
  Conditions: as the theorems say.
-/
import Derived.Test.YtgnkkgbjcodihaaDoorLvL
namespace Go.Proofs.YtgnkkgbjcodihaaDoor
open Go.RowKit

/-- Whatever stood stands, but for the maps in the blocks of M. -/
structure MapsOnly (M : Nat → Prop) (W W' : World) : Prop where
  os : W'.os = W.os
  tape : W'.tape = W.tape
  output : W'.output = W.output
  size : W.heap.size ≤ W'.heap.size
  block : ∀ k, k < W.heap.size → ¬ M k → W'.heap[k]? = W.heap[k]?
  cells : ∀ (k : Nat) (o : Obj), W.heap[k]? = some o → o.isCells = true → W'.heap[k]? = some o
section
variable {M N : Nat → Prop} {W W' W'' : World}
theorem MapsOnly.refl (M : Nat → Prop) (W : World) : MapsOnly M W W := ⟨rfl, rfl, rfl, Nat.le_refl _, fun _ _ _ => rfl, fun _ _ h _ => h⟩
theorem MapsOnly.trans (h : MapsOnly M W W') (k : MapsOnly M W' W'') : MapsOnly M W W'' :=
  ⟨k.os.trans h.os, k.tape.trans h.tape, k.output.trans h.output, Nat.le_trans h.size k.size, fun i hi hm => (k.block i (Nat.lt_of_lt_of_le hi h.size) hm).trans (h.block i hi hm), fun i o hi ho => k.cells i o (h.cells i o hi ho) ho⟩
theorem MapsOnly.wider (h : MapsOnly M W W') (hm : ∀ k, M k → N k) : MapsOnly N W W' := ⟨h.os, h.tape, h.output, h.size, fun k hk hn => h.block k hk (fun e => hn (hm k e)), h.cells⟩
theorem MapsOnly.of_below (M : Nat → Prop) (h : Below W.heap.size W W') : MapsOnly M W W' :=
  ⟨h.os, h.tape, h.output, h.size, fun k hk _ => h.block k hk, fun k _ hk _ => (h.block k (Array.getElem?_eq_some_iff.1 hk).1).trans hk⟩
theorem MapsOnly.of_but {b nr : Nat} {S : Int → Bool} (h : BelowBut b W.heap.size W W') (hr : RegSet W b nr S) (hm : M b) : MapsOnly M W W' :=
  ⟨h.os, h.tape, h.output, h.size, fun k hk hn => h.block k hk (fun e => hn (e ▸ hm)), fun k o hk ho => (h.block k (Array.getElem?_eq_some_iff.1 hk).1 (fun e => by
    subst e
    obtain ⟨⟨D, ⟨es, clock, h1, _⟩, _⟩, _⟩ := hr
    rw [h1] at hk
    cases hk
    cases ho)).trans hk⟩
theorem MapsOnly.of_turned {b : Nat} (h : W.mapTurned W' b) (hm : M b) : MapsOnly M W W' :=
  ⟨(turned_but h (Nat.le_refl _)).os, (turned_but h (Nat.le_refl _)).tape, (turned_but h (Nat.le_refl _)).output, (turned_but h (Nat.le_refl _)).size, fun k hk hn => (turned_but h (Nat.le_refl _)).block k hk (fun e => hn (e ▸ hm)), fun k o hk ho => by
    obtain ⟨es, clock, es', clock', hb, _⟩ := id h
    exact ((turned_but h (Nat.le_refl _)).block k (Array.getElem?_eq_some_iff.1 hk).1 (fun e => by subst e; rw [hb] at hk; cases hk; cases ho)).trans hk⟩
theorem MapsOnly.keeps {B : Nat} (h : MapsOnly M W W') (hM : ∀ k, M k → k < B) : KeepsFrom B W W' :=
  ⟨h.size, fun k o hB hk _ => (h.block k (Array.getElem?_eq_some_iff.1 hk).1 (fun e => by have := hM k e; omega)).trans hk⟩
theorem MapsOnly.cellsBut (h : MapsOnly M W W') (g : Nat) : CellsBut g W W' := ⟨h.size, fun k o _ hk ho => h.cells k o hk ho⟩
theorem MapsOnly.below {B : Nat} (h : MapsOnly M W W') (hB : B ≤ W.heap.size) (hM : ∀ k, M k → B ≤ k) : Below B W W' :=
  ⟨h.os, h.tape, h.output, h.size, fun k hk => h.block k (by omega) (fun e => by have := hM k e; omega)⟩
theorem MapsOnly.blk {g : Nat} {t : TypeId} {cs : Array Value} (h : MapsOnly M W W') (hb : Blk W g t cs) : Blk W' g t cs := h.cells _ _ hb rfl
theorem MapsOnly.cell {k o : Nat} {u : Value} (h : MapsOnly M W W') (hc : W.cell? ⟨k, o, none⟩ = some u) : W'.cell? ⟨k, o, none⟩ = some u := (h.cellsBut W.heap.size).cell hc (by have := block_lt_of_cell hc; simp at this; omega)
theorem MapsOnly.regs {b nr : Nat} {S : Int → Bool} (h : MapsOnly M W W') (hr : RegSet W b nr S) (hn : ¬ M b) : RegSet W' b nr S := hr.stay (h.block b hr.lt hn)
theorem MapsOnly.grown {row : Option Nat} (h : MapsOnly M W W') (hg : W'.grownBy W'' row) (hr : ∀ r, row = some r → W.heap.size ≤ r ∧ ∃ o : Obj, W'.heap[r]? = some o ∧ o.isCells = false) : MapsOnly M W W'' :=
  ⟨hg.os.trans h.os, hg.tape.trans h.tape, hg.output.trans h.output, Nat.le_trans h.size hg.size, fun k hk hn => (hg.block k (Nat.lt_of_lt_of_le hk h.size) (fun e => by have := (hr k e.symm).1; omega)).trans (h.block k hk hn),
    fun k o hk ho => (hg.block k (Nat.lt_of_lt_of_le (Array.getElem?_eq_some_iff.1 hk).1 h.size) (fun e => by have := (hr k e.symm).1; have := (Array.getElem?_eq_some_iff.1 hk).1; omega)).trans (h.cells k o hk ho)⟩
theorem RegSet.grown {b nr B : Nat} {S : Int → Bool} {row : Option Nat} (h : RegSet W b nr S) (hg : W.grownBy W' row) (hb : b < B) (hr : ∀ r, row = some r → B ≤ r) : RegSet W' b nr S :=
  h.stay (hg.block b h.lt (fun e => by have := hr b e.symm; omega))
theorem SlAt.pos {α : Type} {size : Nat} {P : World → Nat → List Value → α → Prop} {w w1 : World} {B : Nat} {v : Value} {xs : List α} (h : SlAt size P w B v xs) (hk : ∀ b o u, w.cell? ⟨b, o, none⟩ = some u → w1.cell? ⟨b, o, none⟩ = some u) (hP : ∀ us x, P w B us x → P w1 B us x) : SlAt size P w1 B v xs := by
  obtain ⟨A, c, e, h1, h2, h3⟩ := h
  refine ⟨A, c, e, h1, h2, fun hl => ?_⟩
  obtain ⟨b, off, e1, e2, e3⟩ := h3 hl
  refine ⟨b, off, e1, e2, fun k x hx => ?_⟩
  obtain ⟨us, hp, hc⟩ := e3 k x hx
  exact ⟨us, hP us x hp, fun j u hu => hk _ _ _ (hc j u hu)⟩
theorem OpdsAt.pos {w w1 : World} {B : Nat} {v : Value} {os : List Opd} (h : OpdsAt w B v os) (hk : ∀ b o u, w.cell? ⟨b, o, none⟩ = some u → w1.cell? ⟨b, o, none⟩ = some u) : OpdsAt w1 B v os := SlAt.pos h hk fun _ _ h => h
theorem InssAt.pos {w w1 : World} {B : Nat} {v : Value} {xs : List InsU} (h : InssAt w B v xs) (hk : ∀ b o u, w.cell? ⟨b, o, none⟩ = some u → w1.cell? ⟨b, o, none⟩ = some u) : InssAt w1 B v xs := SlAt.pos h hk fun us x h => by
  obtain ⟨av, e, h⟩ := h
  exact ⟨av, e, h.pos hk⟩
theorem maps_of_grown {W W' : World} {row : Option Nat} {B : Nat} (hg : W.grownBy W' row) (hr : ∀ r, row = some r → B ≤ r ∧ ∃ o : Obj, W.heap[r]? = some o ∧ o.isCells = false) : MapsOnly (fun k => B ≤ k) W W' :=
  ⟨hg.os, hg.tape, hg.output, hg.size, fun k hk hn => hg.block k hk (fun e => hn (hr k e.symm).1), fun k o hk ho => (hg.block k (Array.getElem?_eq_some_iff.1 hk).1 (fun e => by
    obtain ⟨_, o', h1, h2⟩ := hr k e.symm
    rw [h1] at hk
    cases hk
    rw [h2] at ho
    cases ho)).trans hk⟩
end
/-- A loop over an iterator, of two variables, of which the second lies in a box of its own each round (slots p0, p: what comes; slot q: the box); in no round. -/
theorem wp_range_maps2 {P : Program} {α : Type} {g : Operand} {p0 p q : Nat} {assign body : Code} {Q : Exit → Act → World → Prop} {l : List Value} {ds : List Deferred} {w : World} (t : TypeId) (g0 : Nat) (M : Nat → Prop) (hM : ∀ k, M k → k < w.heap.size) {gf : Nat} {lb : Array Value}
    (hg : (⟨l.toArray, ds⟩ : Act).eval g = .func (.func gf) #[] lb) (eg : ∀ args w, (callFunc gf args).run P w = .ok (.enter gf args) w)
    {enc0 enc : α → Value} {cells : α → Array Value} {Sx Sp : List α → Prop} {N : Nat} (hseq : SeqStopsK Fence.wide 4 P gf lb (fun x => #[enc0 x, enc x]) (CellsBut g0) Sx Sp N w)
    (I : List α → World → Prop) (hI : OwnFrom w.heap.size I) (h0 : I [] w)
    (hassign : ∀ (lp : Nat) (x : α) (W : World) (K : Act → World → Prop), K ⟨(((l.set p0 (enc0 x)).set p (enc x)).set q (.pointer (some ⟨W.heap.size, 0, none⟩))).toArray, []⟩ (W.alloc (.cells (cells x) t)) →
      assign.wpIn (Fence.wide.inRound lp) 3 P (Exit.then K (fun _ _ _ => False)) ⟨((l.set p0 (enc0 x)).set p (enc x)).toArray, []⟩ W)
    (hIa : ∀ pre W o, w.heap.size ≤ W.heap.size → I pre W → I pre (W.alloc o))
    (hbody : ∀ (lp : Nat) (pre : List α) (x : α) (Bx : Nat) (W : World), w.heap.size ≤ Bx → w.heap.size ≤ lp → (∃ r, W.heap[lp]? = some (.loop r)) → w.heap.size ≤ W.heap.size → I pre W → Blk W Bx t (cells x) → pre.length < N →
      body.wpIn (Fence.wide.inRound lp) 3 P (fun e _ W' => e = .normal ∧ MapsOnly M W W' ∧ I (pre ++ [x]) W') ⟨(((l.set p0 (enc0 x)).set p (enc x)).set q (.pointer (some ⟨Bx, 0, none⟩))).toArray, []⟩ W)
    (hdone : ∀ (D : Nat) (xs : List α) (W : World), w.heap.size ≤ D → Sx xs → I xs W → W.heap[D]? = some (.deferred (some [])) → Q .normal ⟨l.toArray, { target := .collected D, args := #[] } :: ds⟩ W) :
    (Code.rangeFunc g #[p0, p] assign body).wp P Q ⟨l.toArray, ds⟩ w := by
  have hz : ∀ x, ((#[p0, p] : Array Nat).zip #[enc0 x, enc x]).foldl (fun (t : Array Value) (pv : Nat × Value) => t.setIfInBounds pv.1 pv.2) l.toArray = ((l.set p0 (enc0 x)).set p (enc x)).toArray := fun x => by simp
  refine (wpIn_wide (n := 5)).1 (wpIn_rangeFunc_ownH rfl (by omega) hg trivial eg hseq (fun h k => h.trans k) (fun W l o o' h1 h2 h3 h4 => cellsK_b (w := w) W l o o' h1 h2 h3 h4) (Below.refl _ _) (fun _ => rfl)
    (fun pre W => I pre W ∧ w.heap.size ≤ W.heap.size) (fun _ _ _ => False) (fun s A B row hs hg' hr => ⟨hI s A B row hs.1 hg' hr, Nat.le_trans hs.2 hg'.size⟩) (fun _ _ _ _ _ hs _ _ => hs) ⟨h0, Nat.le_refl _⟩
    (fun x a' W => ∃ Bx, w.heap.size ≤ Bx ∧ Blk W Bx t (cells x) ∧ a' = ⟨(((l.set p0 (enc0 x)).set p (enc x)).set q (.pointer (some ⟨Bx, 0, none⟩))).toArray, []⟩) ?_ ?_ ?_ ?_ ?_)
  · rintro x a' _ A B row ⟨Bx, h1, h2, h3⟩ hg' hr
    refine ⟨Bx, h1, ?_, h3⟩
    refine (hg'.block Bx h2.lt (fun e => ?_)).trans h2
    obtain ⟨_, o, ho, hc⟩ := hr Bx e.symm
    rw [show A.heap[Bx]? = _ from h2] at ho
    cases ho
    cases hc
  · intro lp pre x W K hi hK
    have hz' := hz x
    simp only at hz' ⊢
    rw [hz']
    refine hassign lp x W K ?_
    exact hK _ _ ((KeepsOthers.alloc _ _).from _) (Below.cellsBut ((Below.refl _ _).alloc (Nat.le_refl _) _)) ⟨hIa _ _ _ hi.2 hi.1, by simp; exact Nat.le_succ_of_le hi.2⟩ ⟨W.heap.size, hi.2, Blk.new _ _ _, rfl⟩
  · rintro lp pre x a' W hl hlr hi ⟨Bx, h1, h2, rfl⟩ hlen
    refine wpIn_mono (hbody lp pre x Bx W h1 hl hlr hi.2 hi.1 h2 hlen) ?_
    rintro e a2 W' ⟨rfl, hb, hi'⟩
    exact ⟨hb.keeps hM, hb.cellsBut g0, hi', Nat.le_trans hi.2 hb.size⟩
  · rintro D xs W hD hS hi hK
    exact hdone D xs W hD hS hi.1 hK
  · rintro D c pre W hD _ hx
    exact hx.elim

/-- A loop over an iterator, of one variable that lies in a box of its own each round (slot p: what comes; slot q: the box); within a round. -/
theorem wpIn_range_mapsN {P : Program} {α : Type} {g : Operand} {p q : Nat} {assign body : Code} {Q : Exit → Act → World → Prop} {l : List Value} {w : World} {l₀ : Nat} {r₀ : Loop} (hl₀ : w.heap[l₀]? = some (.loop r₀)) (t : TypeId) (g0 : Nat) (M : Nat → Prop) (hM : ∀ k, M k → k < w.heap.size) {gf : Nat} {lb : Array Value}
    (hg : (⟨l.toArray, []⟩ : Act).eval g = .func (.func gf) #[] lb) (eg : ∀ args w, (callFunc gf args).run P w = .ok (.enter gf args) w)
    {enc : α → Value} {cells : α → Array Value} {Sx Sp : List α → Prop} {N : Nat} (hseq : SeqStopsK Fence.wide 2 P gf lb (fun x => #[enc x]) (CellsBut g0) Sx Sp N w)
    (I : List α → World → Prop) (hI : OwnFrom w.heap.size I) (h0 : I [] w)
    (hassign : ∀ (lp : Nat) (x : α) (W : World) (K : Act → World → Prop), K ⟨((l.set p (enc x)).set q (.pointer (some ⟨W.heap.size, 0, none⟩))).toArray, []⟩ (W.alloc (.cells (cells x) t)) →
      assign.wpIn (Fence.wide.inRound lp) 1 P (Exit.then K (fun _ _ _ => False)) ⟨(l.set p (enc x)).toArray, []⟩ W)
    (hIa : ∀ pre W o, w.heap.size ≤ W.heap.size → I pre W → I pre (W.alloc o))
    (hbody : ∀ (lp : Nat) (pre : List α) (x : α) (Bx : Nat) (W : World), w.heap.size ≤ Bx → w.heap.size ≤ W.heap.size → I pre W → Blk W Bx t (cells x) → pre.length < N →
      body.wpIn (Fence.wide.inRound lp) 1 P (fun e _ W' => e = .normal ∧ MapsOnly M W W' ∧ I (pre ++ [x]) W') ⟨((l.set p (enc x)).set q (.pointer (some ⟨Bx, 0, none⟩))).toArray, []⟩ W)
    (hdone : ∀ (xs : List α) (W : World), Sx xs → I xs W → Q .normal ⟨l.toArray, []⟩ W) :
    (Code.rangeFunc g #[p] assign body).wpIn (Fence.wide.inRound l₀) 3 P Q ⟨l.toArray, []⟩ w := by
  have hz : ∀ x, ((#[p] : Array Nat).zip #[enc x]).foldl (fun (t : Array Value) (pv : Nat × Value) => t.setIfInBounds pv.1 pv.2) l.toArray = (l.set p (enc x)).toArray := fun x => by simp
  refine (wpIn_rangeFunc_ownN rfl hl₀ (by omega) hg trivial eg (hseq.inRound l₀) (fun h k => h.trans k) (fun W l o o' h1 h2 h3 h4 => cellsK_b (w := w) W l o o' h1 h2 h3 h4) (Below.refl _ _) (fun _ => rfl)
    (fun pre W => I pre W ∧ w.heap.size ≤ W.heap.size) (fun _ _ _ => False) (fun s A B row hs hg' hr => ⟨hI s A B row hs.1 hg' hr, Nat.le_trans hs.2 hg'.size⟩) (fun _ _ _ _ _ hs _ _ => hs) ⟨h0, Nat.le_refl _⟩
    (fun x a' W => ∃ Bx, w.heap.size ≤ Bx ∧ Blk W Bx t (cells x) ∧ a' = ⟨((l.set p (enc x)).set q (.pointer (some ⟨Bx, 0, none⟩))).toArray, []⟩) ?_ ?_ ?_ ?_ ?_)
  · rintro x a' _ A B row ⟨Bx, h1, h2, h3⟩ hg' hr
    refine ⟨Bx, h1, ?_, h3⟩
    refine (hg'.block Bx h2.lt (fun e => ?_)).trans h2
    obtain ⟨_, o, ho, hc⟩ := hr Bx e.symm
    rw [show A.heap[Bx]? = _ from h2] at ho
    cases ho
    cases hc
  · intro lp pre x W K hi hK
    have hz' := hz x
    simp only at hz' ⊢
    rw [hz']
    refine hassign lp x W K ?_
    exact hK _ _ ((KeepsOthers.alloc _ _).from _) (Below.cellsBut ((Below.refl _ _).alloc (Nat.le_refl _) _)) ⟨hIa _ _ _ hi.2 hi.1, by simp; exact Nat.le_succ_of_le hi.2⟩ ⟨W.heap.size, hi.2, Blk.new _ _ _, rfl⟩
  · rintro lp pre x a' W hl _ hi ⟨Bx, h1, h2, rfl⟩ hlen
    refine wpIn_mono (hbody lp pre x Bx W h1 hi.2 hi.1 h2 hlen) ?_
    rintro e a2 W' ⟨rfl, hb, hi'⟩
    exact ⟨hb.keeps hM, hb.cellsBut g0, hi', Nat.le_trans hi.2 hb.size⟩
  · rintro xs W hS hi
    exact hdone xs W hS hi.1
  · rintro c pre W _ hx
    exact hx.elim
end Go.Proofs.YtgnkkgbjcodihaaDoor
