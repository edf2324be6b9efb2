/-
  Several texts in one (LvM LvN): what each proves stands at its theorems.
  Conditions: as the theorems say.
-/
import Derived.Test.YtiknhfbkphoceaaGreatDoorLvL
namespace Go.Proofs.YtiknhfbkphoceaaGreatDoor
open Go.RowKit

/-- Whatever stood stands, but for the maps in the blocks of M. -/
structure MapsOnly (M : Nat → Prop) (W W' : World) : Prop where
  os : W'.os = W.os
  tape : W'.tape = W.tape
  output : W'.output = W.output
  size : W.heap.size ≤ W'.heap.size
  block : ∀ k, k < W.heap.size → ¬ M k → W'.heap[k]? = W.heap[k]?
  cells : ∀ (k : Nat) (o : Obj), W.heap[k]? = some o → o.isCells = true → W'.heap[k]? = some o
section
variable {M N : Nat → Prop} {W W' W'' : World}
theorem MapsOnly.refl (M : Nat → Prop) (W : World) : MapsOnly M W W := ⟨rfl, rfl, rfl, Nat.le_refl _, fun _ _ _ => rfl, fun _ _ h _ => h⟩
theorem MapsOnly.trans (h : MapsOnly M W W') (k : MapsOnly M W' W'') : MapsOnly M W W'' :=
  ⟨k.os.trans h.os, k.tape.trans h.tape, k.output.trans h.output, Nat.le_trans h.size k.size, fun i hi hm => (k.block i (Nat.lt_of_lt_of_le hi h.size) hm).trans (h.block i hi hm), fun i o hi ho => k.cells i o (h.cells i o hi ho) ho⟩
theorem MapsOnly.wider (h : MapsOnly M W W') (hm : ∀ k, M k → N k) : MapsOnly N W W' := ⟨h.os, h.tape, h.output, h.size, fun k hk hn => h.block k hk (fun e => hn (hm k e)), h.cells⟩
theorem MapsOnly.of_below (M : Nat → Prop) (h : Below W.heap.size W W') : MapsOnly M W W' :=
  ⟨h.os, h.tape, h.output, h.size, fun k hk _ => h.block k hk, fun k _ hk _ => (h.block k (Array.getElem?_eq_some_iff.1 hk).1).trans hk⟩
theorem MapsOnly.of_but {b nr : Nat} {S : Int → Bool} (h : BelowBut b W.heap.size W W') (hr : RegSet W b nr S) (hm : M b) : MapsOnly M W W' :=
  ⟨h.os, h.tape, h.output, h.size, fun k hk hn => h.block k hk (fun e => hn (e ▸ hm)), fun k o hk ho => (h.block k (Array.getElem?_eq_some_iff.1 hk).1 (fun e => by
    subst e
    obtain ⟨⟨D, ⟨es, clock, h1, _⟩, _⟩, _⟩ := hr
    rw [h1] at hk
    cases hk
    cases ho)).trans hk⟩
theorem MapsOnly.of_turned {b : Nat} (h : W.mapTurned W' b) (hm : M b) : MapsOnly M W W' :=
  ⟨(turned_but h (Nat.le_refl _)).os, (turned_but h (Nat.le_refl _)).tape, (turned_but h (Nat.le_refl _)).output, (turned_but h (Nat.le_refl _)).size, fun k hk hn => (turned_but h (Nat.le_refl _)).block k hk (fun e => hn (e ▸ hm)), fun k o hk ho => by
    obtain ⟨es, clock, es', clock', hb, _⟩ := id h
    exact ((turned_but h (Nat.le_refl _)).block k (Array.getElem?_eq_some_iff.1 hk).1 (fun e => by subst e; rw [hb] at hk; cases hk; cases ho)).trans hk⟩
theorem MapsOnly.keeps {B : Nat} (h : MapsOnly M W W') (hM : ∀ k, M k → k < B) : KeepsFrom B W W' :=
  ⟨h.size, fun k o hB hk _ => (h.block k (Array.getElem?_eq_some_iff.1 hk).1 (fun e => by have := hM k e; omega)).trans hk⟩
theorem MapsOnly.cellsBut (h : MapsOnly M W W') (g : Nat) : CellsBut g W W' := ⟨h.size, fun k o _ hk ho => h.cells k o hk ho⟩
theorem MapsOnly.below {B : Nat} (h : MapsOnly M W W') (hB : B ≤ W.heap.size) (hM : ∀ k, M k → B ≤ k) : Below B W W' :=
  ⟨h.os, h.tape, h.output, h.size, fun k hk => h.block k (by omega) (fun e => by have := hM k e; omega)⟩
theorem MapsOnly.blk {g : Nat} {t : TypeId} {cs : Array Value} (h : MapsOnly M W W') (hb : Blk W g t cs) : Blk W' g t cs := h.cells _ _ hb rfl
theorem MapsOnly.cell {k o : Nat} {u : Value} (h : MapsOnly M W W') (hc : W.cell? ⟨k, o, none⟩ = some u) : W'.cell? ⟨k, o, none⟩ = some u := (h.cellsBut W.heap.size).cell hc (by have := block_lt_of_cell hc; simp at this; omega)
theorem MapsOnly.regs {b nr : Nat} {S : Int → Bool} (h : MapsOnly M W W') (hr : RegSet W b nr S) (hn : ¬ M b) : RegSet W' b nr S := hr.stay (h.block b hr.lt hn)
theorem MapsOnly.grown {row : Option Nat} (h : MapsOnly M W W') (hg : W'.grownBy W'' row) (hr : ∀ r, row = some r → W.heap.size ≤ r ∧ ∃ o : Obj, W'.heap[r]? = some o ∧ o.isCells = false) : MapsOnly M W W'' :=
  ⟨hg.os.trans h.os, hg.tape.trans h.tape, hg.output.trans h.output, Nat.le_trans h.size hg.size, fun k hk hn => (hg.block k (Nat.lt_of_lt_of_le hk h.size) (fun e => by have := (hr k e.symm).1; omega)).trans (h.block k hk hn),
    fun k o hk ho => (hg.block k (Nat.lt_of_lt_of_le (Array.getElem?_eq_some_iff.1 hk).1 h.size) (fun e => by have := (hr k e.symm).1; have := (Array.getElem?_eq_some_iff.1 hk).1; omega)).trans (h.cells k o hk ho)⟩
theorem RegSet.grown {b nr B : Nat} {S : Int → Bool} {row : Option Nat} (h : RegSet W b nr S) (hg : W.grownBy W' row) (hb : b < B) (hr : ∀ r, row = some r → B ≤ r) : RegSet W' b nr S :=
  h.stay (hg.block b h.lt (fun e => by have := hr b e.symm; omega))
theorem SlAt.pos {α : Type} {size : Nat} {P : World → Nat → List Value → α → Prop} {w w1 : World} {B : Nat} {v : Value} {xs : List α} (h : SlAt size P w B v xs) (hk : ∀ b o u, w.cell? ⟨b, o, none⟩ = some u → w1.cell? ⟨b, o, none⟩ = some u) (hP : ∀ us x, P w B us x → P w1 B us x) : SlAt size P w1 B v xs := by
  obtain ⟨A, c, e, h1, h2, h3⟩ := h
  refine ⟨A, c, e, h1, h2, fun hl => ?_⟩
  obtain ⟨b, off, e1, e2, e3⟩ := h3 hl
  refine ⟨b, off, e1, e2, fun k x hx => ?_⟩
  obtain ⟨us, hp, hc⟩ := e3 k x hx
  exact ⟨us, hP us x hp, fun j u hu => hk _ _ _ (hc j u hu)⟩
theorem OpdsAt.pos {w w1 : World} {B : Nat} {v : Value} {os : List Opd} (h : OpdsAt w B v os) (hk : ∀ b o u, w.cell? ⟨b, o, none⟩ = some u → w1.cell? ⟨b, o, none⟩ = some u) : OpdsAt w1 B v os := SlAt.pos h hk fun _ _ h => h
theorem InssAt.pos {w w1 : World} {B : Nat} {v : Value} {xs : List InsU} (h : InssAt w B v xs) (hk : ∀ b o u, w.cell? ⟨b, o, none⟩ = some u → w1.cell? ⟨b, o, none⟩ = some u) : InssAt w1 B v xs := SlAt.pos h hk fun us x h => by
  obtain ⟨av, e, h⟩ := h
  exact ⟨av, e, h.pos hk⟩
theorem maps_of_grown {W W' : World} {row : Option Nat} {B : Nat} (hg : W.grownBy W' row) (hr : ∀ r, row = some r → B ≤ r ∧ ∃ o : Obj, W.heap[r]? = some o ∧ o.isCells = false) : MapsOnly (fun k => B ≤ k) W W' :=
  ⟨hg.os, hg.tape, hg.output, hg.size, fun k hk hn => hg.block k hk (fun e => hn (hr k e.symm).1), fun k o hk ho => (hg.block k (Array.getElem?_eq_some_iff.1 hk).1 (fun e => by
    obtain ⟨_, o', h1, h2⟩ := hr k e.symm
    rw [h1] at hk
    cases hk
    rw [h2] at ho
    cases ho)).trans hk⟩
end
/-- A loop over an iterator, of two variables, of which the second lies in a box of its own each round (slots p0, p: what comes; slot q: the box); in no round. -/
theorem wp_range_maps2 {P : Program} {α : Type} {g : Operand} {p0 p q : Nat} {assign body : Code} {Q : Exit → Act → World → Prop} {l : List Value} {ds : List Deferred} {w : World} (t : TypeId) (g0 : Nat) (M : Nat → Prop) (hM : ∀ k, M k → k < w.heap.size) {gf : Nat} {lb : Array Value}
    (hg : (⟨l.toArray, ds⟩ : Act).eval g = .func (.func gf) #[] lb) (eg : ∀ args w, (callFunc gf args).run P w = .ok (.enter gf args) w)
    {enc0 enc : α → Value} {cells : α → Array Value} {Sx Sp : List α → Prop} {N : Nat} (hseq : SeqStopsK Fence.wide 4 P gf lb (fun x => #[enc0 x, enc x]) (CellsBut g0) Sx Sp N w)
    (I : List α → World → Prop) (hI : OwnFrom w.heap.size I) (h0 : I [] w)
    (hassign : ∀ (lp : Nat) (x : α) (W : World) (K : Act → World → Prop), K ⟨(((l.set p0 (enc0 x)).set p (enc x)).set q (.pointer (some ⟨W.heap.size, 0, none⟩))).toArray, []⟩ (W.alloc (.cells (cells x) t)) →
      assign.wpIn (Fence.wide.inRound lp) 3 P (Exit.then K (fun _ _ _ => False)) ⟨((l.set p0 (enc0 x)).set p (enc x)).toArray, []⟩ W)
    (hIa : ∀ pre W o, w.heap.size ≤ W.heap.size → I pre W → I pre (W.alloc o))
    (hbody : ∀ (lp : Nat) (pre : List α) (x : α) (Bx : Nat) (W : World), w.heap.size ≤ Bx → w.heap.size ≤ lp → (∃ r, W.heap[lp]? = some (.loop r)) → w.heap.size ≤ W.heap.size → I pre W → Blk W Bx t (cells x) → pre.length < N →
      body.wpIn (Fence.wide.inRound lp) 3 P (fun e _ W' => e = .normal ∧ MapsOnly M W W' ∧ I (pre ++ [x]) W') ⟨(((l.set p0 (enc0 x)).set p (enc x)).set q (.pointer (some ⟨Bx, 0, none⟩))).toArray, []⟩ W)
    (hdone : ∀ (D : Nat) (xs : List α) (W : World), w.heap.size ≤ D → Sx xs → I xs W → W.heap[D]? = some (.deferred (some [])) → Q .normal ⟨l.toArray, { target := .collected D, args := #[] } :: ds⟩ W) :
    (Code.rangeFunc g #[p0, p] assign body).wp P Q ⟨l.toArray, ds⟩ w := by
  have hz : ∀ x, ((#[p0, p] : Array Nat).zip #[enc0 x, enc x]).foldl (fun (t : Array Value) (pv : Nat × Value) => t.setIfInBounds pv.1 pv.2) l.toArray = ((l.set p0 (enc0 x)).set p (enc x)).toArray := fun x => by simp
  refine (wpIn_wide (n := 5)).1 (wpIn_rangeFunc_ownH rfl (by omega) hg trivial eg hseq (fun h k => h.trans k) (fun W l o o' h1 h2 h3 h4 => cellsK_b (w := w) W l o o' h1 h2 h3 h4) (Below.refl _ _) (fun _ => rfl)
    (fun pre W => I pre W ∧ w.heap.size ≤ W.heap.size) (fun _ _ _ => False) (fun s A B row hs hg' hr => ⟨hI s A B row hs.1 hg' hr, Nat.le_trans hs.2 hg'.size⟩) (fun _ _ _ _ _ hs _ _ => hs) ⟨h0, Nat.le_refl _⟩
    (fun x a' W => ∃ Bx, w.heap.size ≤ Bx ∧ Blk W Bx t (cells x) ∧ a' = ⟨(((l.set p0 (enc0 x)).set p (enc x)).set q (.pointer (some ⟨Bx, 0, none⟩))).toArray, []⟩) ?_ ?_ ?_ ?_ ?_)
  · rintro x a' _ A B row ⟨Bx, h1, h2, h3⟩ hg' hr
    refine ⟨Bx, h1, ?_, h3⟩
    refine (hg'.block Bx h2.lt (fun e => ?_)).trans h2
    obtain ⟨_, o, ho, hc⟩ := hr Bx e.symm
    rw [show A.heap[Bx]? = _ from h2] at ho
    cases ho
    cases hc
  · intro lp pre x W K hi hK
    have hz' := hz x
    simp only at hz' ⊢
    rw [hz']
    refine hassign lp x W K ?_
    exact hK _ _ ((KeepsOthers.alloc _ _).from _) (Below.cellsBut ((Below.refl _ _).alloc (Nat.le_refl _) _)) ⟨hIa _ _ _ hi.2 hi.1, by simp; exact Nat.le_succ_of_le hi.2⟩ ⟨W.heap.size, hi.2, Blk.new _ _ _, rfl⟩
  · rintro lp pre x a' W hl hlr hi ⟨Bx, h1, h2, rfl⟩ hlen
    refine wpIn_mono (hbody lp pre x Bx W h1 hl hlr hi.2 hi.1 h2 hlen) ?_
    rintro e a2 W' ⟨rfl, hb, hi'⟩
    exact ⟨hb.keeps hM, hb.cellsBut g0, hi', Nat.le_trans hi.2 hb.size⟩
  · rintro D xs W hD hS hi hK
    exact hdone D xs W hD hS hi.1 hK
  · rintro D c pre W hD _ hx
    exact hx.elim

/-- A loop over an iterator, of one variable that lies in a box of its own each round (slot p: what comes; slot q: the box); within a round. -/
theorem wpIn_range_mapsN {P : Program} {α : Type} {g : Operand} {p q : Nat} {assign body : Code} {Q : Exit → Act → World → Prop} {l : List Value} {w : World} {l₀ : Nat} {r₀ : Loop} (hl₀ : w.heap[l₀]? = some (.loop r₀)) (t : TypeId) (g0 : Nat) (M : Nat → Prop) (hM : ∀ k, M k → k < w.heap.size) {gf : Nat} {lb : Array Value}
    (hg : (⟨l.toArray, []⟩ : Act).eval g = .func (.func gf) #[] lb) (eg : ∀ args w, (callFunc gf args).run P w = .ok (.enter gf args) w)
    {enc : α → Value} {cells : α → Array Value} {Sx Sp : List α → Prop} {N : Nat} (hseq : SeqStopsK Fence.wide 2 P gf lb (fun x => #[enc x]) (CellsBut g0) Sx Sp N w)
    (I : List α → World → Prop) (hI : OwnFrom w.heap.size I) (h0 : I [] w)
    (hassign : ∀ (lp : Nat) (x : α) (W : World) (K : Act → World → Prop), K ⟨((l.set p (enc x)).set q (.pointer (some ⟨W.heap.size, 0, none⟩))).toArray, []⟩ (W.alloc (.cells (cells x) t)) →
      assign.wpIn (Fence.wide.inRound lp) 1 P (Exit.then K (fun _ _ _ => False)) ⟨(l.set p (enc x)).toArray, []⟩ W)
    (hIa : ∀ pre W o, w.heap.size ≤ W.heap.size → I pre W → I pre (W.alloc o))
    (hbody : ∀ (lp : Nat) (pre : List α) (x : α) (Bx : Nat) (W : World), w.heap.size ≤ Bx → w.heap.size ≤ W.heap.size → I pre W → Blk W Bx t (cells x) → pre.length < N →
      body.wpIn (Fence.wide.inRound lp) 1 P (fun e _ W' => e = .normal ∧ MapsOnly M W W' ∧ I (pre ++ [x]) W') ⟨((l.set p (enc x)).set q (.pointer (some ⟨Bx, 0, none⟩))).toArray, []⟩ W)
    (hdone : ∀ (xs : List α) (W : World), Sx xs → I xs W → Q .normal ⟨l.toArray, []⟩ W) :
    (Code.rangeFunc g #[p] assign body).wpIn (Fence.wide.inRound l₀) 3 P Q ⟨l.toArray, []⟩ w := by
  have hz : ∀ x, ((#[p] : Array Nat).zip #[enc x]).foldl (fun (t : Array Value) (pv : Nat × Value) => t.setIfInBounds pv.1 pv.2) l.toArray = (l.set p (enc x)).toArray := fun x => by simp
  refine (wpIn_rangeFunc_ownN rfl hl₀ (by omega) hg trivial eg (hseq.inRound l₀) (fun h k => h.trans k) (fun W l o o' h1 h2 h3 h4 => cellsK_b (w := w) W l o o' h1 h2 h3 h4) (Below.refl _ _) (fun _ => rfl)
    (fun pre W => I pre W ∧ w.heap.size ≤ W.heap.size) (fun _ _ _ => False) (fun s A B row hs hg' hr => ⟨hI s A B row hs.1 hg' hr, Nat.le_trans hs.2 hg'.size⟩) (fun _ _ _ _ _ hs _ _ => hs) ⟨h0, Nat.le_refl _⟩
    (fun x a' W => ∃ Bx, w.heap.size ≤ Bx ∧ Blk W Bx t (cells x) ∧ a' = ⟨((l.set p (enc x)).set q (.pointer (some ⟨Bx, 0, none⟩))).toArray, []⟩) ?_ ?_ ?_ ?_ ?_)
  · rintro x a' _ A B row ⟨Bx, h1, h2, h3⟩ hg' hr
    refine ⟨Bx, h1, ?_, h3⟩
    refine (hg'.block Bx h2.lt (fun e => ?_)).trans h2
    obtain ⟨_, o, ho, hc⟩ := hr Bx e.symm
    rw [show A.heap[Bx]? = _ from h2] at ho
    cases ho
    cases hc
  · intro lp pre x W K hi hK
    have hz' := hz x
    simp only at hz' ⊢
    rw [hz']
    refine hassign lp x W K ?_
    exact hK _ _ ((KeepsOthers.alloc _ _).from _) (Below.cellsBut ((Below.refl _ _).alloc (Nat.le_refl _) _)) ⟨hIa _ _ _ hi.2 hi.1, by simp; exact Nat.le_succ_of_le hi.2⟩ ⟨W.heap.size, hi.2, Blk.new _ _ _, rfl⟩
  · rintro lp pre x a' W hl _ hi ⟨Bx, h1, h2, rfl⟩ hlen
    refine wpIn_mono (hbody lp pre x Bx W h1 hi.2 hi.1 h2 hlen) ?_
    rintro e a2 W' ⟨rfl, hb, hi'⟩
    exact ⟨hb.keeps hM, hb.cellsBut g0, hi', Nat.le_trans hi.2 hb.size⟩
  · rintro xs W hS hi
    exact hdone xs W hS hi.1
  · rintro c pre W _ hx
    exact hx.elim
end Go.Proofs.YtiknhfbkphoceaaGreatDoor
namespace Go.Proofs.YtiknhfbkphoceaaGreatDoor
open Go.RowKit
attribute [local go_sem] Oper.semAt_some

/-- Back through instructions that come from behind: each, and what is live behind it. -/
def evF : List InsU → (Int → Bool) → List (InsU × (Int → Bool))
  | [], _ => []
  | x :: ys, S => (x, S) :: evF ys (aheadS x S)
theorem backS_cons (x : InsU) (ys : List InsU) (S : Int → Bool) : backS (x :: ys) S = backS ys (aheadS x S) := rfl
theorem evF_snoc : ∀ (ys : List InsU) (x : InsU) (S : Int → Bool), evF (ys ++ [x]) S = evF ys S ++ [(x, backS ys S)]
  | [], _, _ => rfl
  | y :: ys, x, S => by
    show (y, S) :: evF (ys ++ [x]) (aheadS y S) = (y, S) :: (evF ys (aheadS y S) ++ [(x, backS ys (aheadS y S))])
    rw [evF_snoc ys x (aheadS y S)]
noncomputable def evB (bs : List BlkU) (b : BlkU) : List (InsU × (Int → Bool)) := evF b.list.reverse (endU b (inU bs))
noncomputable def evAll (bs : List BlkU) (k : Nat) : List (InsU × (Int → Bool)) := ((bs.take k).map (evB bs)).flatten
theorem evAll_succ {bs : List BlkU} {k : Nat} {b : BlkU} (h : bs[k]? = some b) : evAll bs (k + 1) = evAll bs k ++ evB bs b := by
  unfold evAll
  have hk := (List.getElem?_eq_some_iff.1 h).1
  rw [List.take_succ_eq_append_getElem hk, (List.getElem?_eq_some_iff.1 h).2, List.map_append, List.flatten_append]
  simp
theorem inU_range {bs : List BlkU} {n : Nat} (h : Ranged bs n) (i : Nat) (r : Int) (hr : inU bs i r = true) : 0 ≤ r ∧ r < (n : Int) := by
  have := inU_least (I := fun _ r => decide (0 ≤ r ∧ r < (n : Int))) (fun j s hs => by
    have := stepU_range h (fun _ r hr => by simpa using hr) j s hs
    simpa using this) i r hr
  simpa using this
theorem outS_range {bs : List BlkU} {n : Nat} (h : Ranged bs n) (ts : List Int) (r : Int) (hr : outS ts (inU bs) r = true) : 0 ≤ r ∧ r < (n : Int) := by
  unfold outS at hr
  obtain ⟨t, _, ht⟩ := List.any_eq_true.1 hr
  exact inU_range h _ _ ht
theorem orS_listS {n : Nat} {S : Int → Bool} (h : ∀ r, S r = true → 0 ≤ r ∧ r < (n : Int)) : orS (fun _ => false) (listS n S) = S := by
  funext r
  unfold orS
  rw [Bool.false_or, Bool.eq_iff_iff, decide_eq_true_eq, listS_mem]
  exact ⟨fun h => h.2.2, fun hr => ⟨(h r hr).1, (h r hr).2, hr⟩⟩
theorem IntsAt.maps {M : Nat → Prop} {W W' : World} {B : Nat} {v : Value} {xs : List Int} (h : MapsOnly M W W') (hv : IntsAt W B v xs) (B' : Nat) (hB : B ≤ B') : IntsAt W' B' v xs := by
  obtain ⟨A, c, e, h1, h2, h3⟩ := hv
  refine ⟨A, c, e, h1, h2, fun hl => ?_⟩
  obtain ⟨b, off, e1, e2, e3⟩ := h3 hl
  exact ⟨b, off, e1, by omega, fun k x hx => h.cell (e3 k x hx)⟩
theorem maps_kept {M : Nat → Prop} {W W' : World} {B : Nat} (h : MapsOnly M W W') (hB : B ≤ W.heap.size) (hM : ∀ k, M k → B ≤ k) : Kept W W' B := kept_of (h.below hB hM) (Nat.le_refl _)
/-- The world while clash.Back goes on. -/
def Apart (M : Nat → Prop) (B : Nat) (k : Nat) : Prop := M k ∨ B ≤ k
theorem MapsOnly.drop {M : Nat → Prop} {w W : World} (h : MapsOnly (Apart M w.heap.size) w W) : MapsOnly M w W :=
  ⟨h.os, h.tape, h.output, h.size, fun k hk hn => h.block k hk (fun e => e.elim hn (fun e => by omega)), h.cells⟩
/-- .. within the loop back through a block's instructions. -/
def BkNow (W6 : World) (B bn n : Nat) (xs : List InsU) (E : Int → Bool) (J : List (InsU × (Int → Bool)) → World → Prop) (s0 : List (InsU × (Int → Bool))) (M : Nat → Prop) (pre : List (BackEl W6 B xs)) (W : World) : Prop :=
  J (s0 ++ evF (pre.map BackEl.ins) E) W ∧ RegSet W bn n (backS (pre.map BackEl.ins) E) ∧ MapsOnly M W6 W
/-- .. within the loop over an instruction's values. -/
def BvNow (Wf : World) (bn n : Nat) (x : InsU) (S : Int → Bool) (pre : List { v : Opd // v ∈ valsU x }) (W : World) : Prop :=
  RegSet W bn n (orS (fun r => S r && decide (x.dst ≠ r)) (occVs (pre.map Subtype.val))) ∧ MapsOnly (fun k => k = bn) Wf W
set_option maxRecDepth 100000 in
set_option maxHeartbeats 8000000 in
theorem Back_any (gv fv : Value) (gs : List Glob) (fs : List FunU) (k : Nat) (f : FunU) (w : World) (hun : unitF gs fs = (0, 0)) (hf : fs[k]? = some f) (hph : ∀ b ∈ f.blocks, b.phis = []) (hho : HeadOk f) (hbo : BodyOk (fs.map FunU.params) f) (hu : UnitAt w w.heap.size gv fv gs fs)
    (Fdo : FuncId) (cap : Array Value) (M : Nat → Prop) (J : List (InsU × (Int → Bool)) → World → Prop) (hc : ∀ (a : Array Value) (W : World), (callFunc Fdo a).run Tryz.prog W = .ok (.enter Fdo a) W)
    (hMw : ∀ k, M k → k < w.heap.size) (hJ : ∀ s W W', w.heap.size ≤ W.heap.size → J s W → MapsOnly (fun k => w.heap.size ≤ k) W W' → J s W')
    (hdo : ∀ s x T W bn aA ac, J s W → w.heap.size ≤ W.heap.size → w.heap.size ≤ bn → RegSet W bn f.regs.toNat T → InsOk (fs.map FunU.params) f.regs x →
      Calls Tryz.prog Fdo (#[.agg (insC2 x (.slice aA x.args.length ac)), .map (some bn)] ++ cap) W fun e W' => e = .returned (.tuple #[]) ∧ J (s ++ [(x, T)]) W' ∧ MapsOnly M W W') (h0 : J [] w) :
    Calls Tryz.prog 29 #[.agg #[gv, fv], .int .i64 (k : Int), .func (.func Fdo) #[] cap] w fun e w' => e = .returned (.tuple #[]) ∧ J (evAll f.blocks f.blocks.length) w' ∧ MapsOnly M w w' := by
  have HU := Lib.hid hu
  obtain ⟨A, c, rfl, hl1, hl2⟩ := SlAt.form hu.funs
  obtain ⟨l, hl⟩ : ∃ l, fs.length = l := ⟨_, rfl⟩
  rw [hl] at HU hl1 ⊢
  have hkl : k < l := by rw [← hl]; exact (List.getElem?_eq_some_iff.1 hf).1
  obtain ⟨n, hnr⟩ : ∃ n : Nat, f.regs = (n : Int) := ⟨f.regs.toNat, by have := hho.p0; have := hho.r0; omega⟩
  have hn : n ≤ 100 := by have := hho.r1; omega
  have hbl40 : f.blocks.length ≤ 40 := hho.b1
  have hbl0 : 0 < f.blocks.length := hho.b0
  have HOut := Lib.hid (fun W (h : Below w.heap.size w W) => Out_any gv _ gs fs k f W hun hf hph hho hbo (HU.out.later h))
  obtain ⟨fb, fo, f', bA, bc, rfl, hfb, hfn, _, _, _, f3, hblk⟩ := FunsAt.one HU.out.funs hkl
  obtain rfl : f = f' := by rw [hf] at hfn; exact Option.some.inj hfn
  obtain ⟨bl, hbl⟩ : ∃ bl, f.blocks.length = bl := ⟨_, rfl⟩
  rw [hbl] at f3 hblk hbl40 hbl0
  have HBl := Lib.hid hbl
  have HBk := Lib.hid hblk
  have HPh := Lib.hid hph
  have HIns : Hid (∀ b ∈ f.blocks, ∀ x ∈ b.list, InsOk (fs.map FunU.params) (n : Int) x) := Lib.hid (fun b hb x hx => hnr ▸ hbo.list b hb x hx)
  have HOn : Hid (∀ b ∈ f.blocks, b.on.reg = true → 0 ≤ b.on.n ∧ b.on.n < (n : Int)) := Lib.hid (fun b hb h => hnr ▸ (hbo.ends b hb).on h)
  have HRg : Hid (Ranged f.blocks n) := Lib.hid ⟨fun b hb x hx r hr => by
    have h := HIns.out b hb x hx
    rw [takes_vals h, decide_eq_true_eq] at hr
    exact occVs_in (fun v hv => vals_in h v hv) r hr, fun b hb r hr => by
    unfold occV at hr
    split at hr
    · rename_i h
      simp only [List.mem_singleton] at hr
      subst hr
      exact HOn.out b hb h
    · cases hr⟩
  have HJ := Lib.hid hJ
  have HMw := Lib.hid hMw
  have HDo : Hid (∀ s x T W bn aA ac, J s W → w.heap.size ≤ W.heap.size → w.heap.size ≤ bn → RegSet W bn n T → InsOk (fs.map FunU.params) (n : Int) x →
      Calls Tryz.prog Fdo (#[.agg (insC2 x (.slice aA x.args.length ac)), .map (some bn)] ++ cap) W fun e W' => e = .returned (.tuple #[]) ∧ J (s ++ [(x, T)]) W' ∧ MapsOnly M W W') := Lib.hid (by
    intro s x T W bn aA ac h1 h2 h3 h4 h5
    exact hdo s x T W bn aA ac h1 h2 h3 (by rw [hnr, Int.toNat_natCast]; exact h4) (by rw [hnr]; exact h5))
  rw [hnr, Int.toNat_natCast] at HOut
  have HP : Hid (∀ W, J (evAll f.blocks bl) W → MapsOnly M w W → J (evAll f.blocks f.blocks.length) W ∧ MapsOnly M w W) := Lib.hid (fun W h1 h2 => ⟨by rw [hbl]; exact h1, h2⟩)
  have HB0 : Hid (Below w.heap.size w ((w.alloc (.cells #[gv, .slice (some ⟨fb, fo, none⟩) l c] 25)).alloc (.cells #[.func (.func Fdo) #[] cap] 70))) := Lib.hid (((Below.refl _ _).alloc (Nat.le_refl _) _).alloc (by simp) _)
  have HU0 : Hid (Blk ((w.alloc (.cells #[gv, .slice (some ⟨fb, fo, none⟩) l c] 25)).alloc (.cells #[.func (.func Fdo) #[] cap] 70)) w.heap.size 25 #[gv, .slice (some ⟨fb, fo, none⟩) l c]) := Lib.hid ((Blk.new w _ _).alloc _)
  have HD0 : Hid (Blk ((w.alloc (.cells #[gv, .slice (some ⟨fb, fo, none⟩) l c] 25)).alloc (.cells #[.func (.func Fdo) #[] cap] 70)) (w.heap.size + 1) 70 #[.func (.func Fdo) #[] cap]) := Lib.hid (by
    have h := Blk.new (w.alloc (.cells #[gv, .slice (some ⟨fb, fo, none⟩) l c] 25)) 70 #[.func (.func Fdo) #[] cap]
    rw [World.size_alloc] at h
    exact h)
  have H0 := Lib.hid h0
  have Hc := Lib.hid hc
  clear hun hf hph hho hbo hu hl hnr hfn hbl hblk hJ hMw hdo h0 hc
  refine (callsIn_wide (n := 5)).1 (callsIn_of_wp_marks Tryz.func29 rfl trivial (wpIn_wide.2 ?_) rfl)
  simp only [Tryz.ntmps29, List.size_toArray, List.length_cons, List.length_nil, Nat.reduceAdd, Nat.reduceSub, Array.replicate_succ, Array.replicate_zero, List.push_toArray, List.append_toArray, List.nil_append, List.cons_append]
  go_upto_region 1 with fail
  generalize (w.alloc (.cells #[gv, .slice (some ⟨fb, fo, none⟩) l c] 25)).alloc (.cells #[.func (.func Fdo) #[] cap] 70) = W0 at *
  generalize hgd : w.heap.size + 1 = gd at *
  have c0 := HU0.out.cell 0
  have c1 := HU0.out.cell 1
  go_wp2_with fail
  refine (HOut.out _ HB0.out).mono ?_
  rintro e w1 ⟨v, rfl, hrow, hb1⟩
  have HB2 : Hid (Below w.heap.size w (w1.alloc (.cells #[.int .i64 0, .int .i64 0] 28))) := Lib.hid ((HB0.out.trans (hb1.mono HB0.out.size)).alloc (HB0.out.trans (hb1.mono HB0.out.size)).size _)
  have HU2 := Lib.hid ((HU0.out.below hb1 HU0.out.lt).alloc (.cells #[.int .i64 0, .int .i64 0] 28))
  have HD2 := Lib.hid ((HD0.out.below hb1 HD0.out.lt).alloc (.cells #[.int .i64 0, .int .i64 0] 28))
  have HR2 := Lib.hid ((hrow.more HB0.out.size).below ((Below.refl _ _).alloc (Nat.le_refl _) (.cells #[.int .i64 0, .int .i64 0] 28)) rfl)
  clear hrow hb1 c0 c1 HU0 HD0 HB0
  obtain ⟨rs, hrs, hro, hri⟩ := HR2.out
  rw [List.length_map, List.length_range, HBl.out] at hrs
  obtain ⟨vg, vc, rfl, _, _⟩ := World.ownsRow.form hro (by omega)
  rw [hrs] at hro ⊢
  go_upto_region 2 with fail
  generalize w1.alloc (.cells #[.int .i64 0, .int .i64 0] 28) = W2 at *
  have c1 := HU2.out.cell 1
  have f3 := (bcell HB2.out hfb).trans f3
  have hk0 : (0 : Int) ≤ (k : Int) := Int.natCast_nonneg k
  have hk1 : (k : Int) < (l : Int) := by omega
  have HMk := Lib.hid (Marks.nil w.heap.size W2)
  have HJ2 : Hid (J (evAll f.blocks 0) W2) := Lib.hid (HJ.out _ _ _ (Nat.le_refl _) H0.out (MapsOnly.of_below _ HB2.out))
  have HRo := Lib.hid hro
  have HRi := Lib.hid hri
  have hvg2 : vg < W2.heap.size := (World.ownsRow.lt hro vg rfl).2
  have hmm := @run_makeMap Tryz.prog
  clear hro hri HR2 H0
  go_wp2_with fail
  refine wp_loop_fills w.heap.size [8, 9, 10, 12, 29, 30, 31, 32, 33, 34, 35, 36, 37, 38, 39, 40, 41, 42, 43, 44, 45, 46, 47, 48, 49, 50, 51, 52, 53, 54, 55, 71] (fun m u wr => ∃ j : Nat, j + m = bl ∧ u 29 = .int .i64 (j : Int) ∧ Hid (J (evAll f.blocks j) wr) ∧ Hid (MapsOnly (Apart M w.heap.size) W2 wr)) bl (by simp only [fill, List.set_cons_succ, List.set_cons_zero, List.getD_cons_succ, List.getD_cons_zero]) HMk.out ⟨0, by omega, rfl, HJ2, Lib.hid (MapsOnly.refl _ _)⟩ ?_
  clear HMk HJ2 c1 f3
  intro m u ds wr hM hrel J1 K1 hJ1 hK1
  simp only [fill, List.set_cons_succ, List.set_cons_zero]
  obtain ⟨j, hj, h29, HJj, HMo⟩ := hrel
  rw [h29]
  clear h29
  have hM := Lib.hid hM
  have hzw : w.heap.size ≤ wr.heap.size := Nat.le_trans HB2.out.size HMo.out.size
  rcases m with _ | mk
  · have hjt : ¬ (j : Int) < (bl : Int) := by omega
    have hjb : j = bl := by omega
    subst hjb
    go_wp2_with fail
    refine end_none_m hM.out rfl ?_
    intro w' hs hb
    have hmo : MapsOnly (fun k => w.heap.size ≤ k) wr w' := ⟨hs.os, hs.tape, hs.output, hs.size, fun k hk hn => hb.block k (by omega), fun k o hk ho => hs.same k o hk (by intro l e; subst e; cases ho)⟩
    have hall : MapsOnly M w w' := MapsOnly.drop (((MapsOnly.of_below _ HB2.out).trans HMo.out).trans (hmo.wider fun k h => .inr h))
    exact ⟨rfl, HP.out _ (HJ.out _ _ _ hzw HJj.out hmo) hall⟩
  · have hjt : (j : Int) < (bl : Int) := by omega
    have hj0 : (0 : Int) ≤ (j : Int) := Int.natCast_nonneg j
    have hjl : j < bl := by omega
    obtain ⟨bb, bo, b, pA, pc, lA, lc, tA, tc, rfl, hbb, hbj, p0, p1, p2, p3, p4, p5, _, hli, _⟩ := BlksAt.one HBk.out hjl
    have p0 := HMo.out.cell ((bcell HB2.out hbb).trans p0)
    have p1 := HMo.out.cell ((bcell HB2.out hbb).trans p1)
    have p2 := HMo.out.cell ((bcell HB2.out hbb).trans p2)
    have p3 := HMo.out.cell ((bcell HB2.out hbb).trans p3)
    have p4 := HMo.out.cell ((bcell HB2.out hbb).trans p4)
    have p5 := HMo.out.cell ((bcell HB2.out hbb).trans p5)
    have hbm := List.mem_of_getElem? hbj
    have hbbr : bb < wr.heap.size := by omega
    obtain ⟨ll, hll⟩ : ∃ ll, b.list.length = ll := ⟨_, rfl⟩
    rw [hll] at p1 hli
    have Hll := Lib.hid hll
    have Hbj := Lib.hid hbj
    have HLI := Lib.hid hli
    have HIb := Lib.hid (HIns.out b hbm)
    have HOb := Lib.hid (HOn.out b hbm)
    obtain ⟨row, hrow⟩ : ∃ row, rs[j]? = some row := ⟨rs[j]'(by omega), List.getElem?_eq_getElem _⟩
    have r0 := HMo.out.cell (row_cell HRo.out hrow)
    have HRw0 := HRi.out j row (listS n (outS b.to (inU f.blocks))) hrow (by rw [List.getElem?_map, List.getElem?_range (by rw [HBl.out]; exact hjl)]; simp only [Option.map_some]; rw [outsU_at hbj])
    obtain ⟨rA, rc, hrA⟩ := row_form HRw0
    subst hrA
    have HRw := Lib.hid (IntsAt.maps HMo.out HRw0.ints wr.heap.size HMo.out.size)
    clear hbj hbm hll hli hrow HRw0
    go_upto_region 6 with fail
    have HB3 : Hid (Below wr.heap.size wr (((wr.alloc (.cells #[.slice pA b.phis.length pc, .slice lA ll lc, .int .i64 b.kind, .bool b.on.reg, .int .i64 b.on.n, .slice tA b.to.length tc] 78)).alloc (.map #[] 0)).alloc (.cells #[.map (some (wr.heap.size + 1))] 61))) := Lib.hid ((((Below.refl _ _).alloc (Nat.le_refl _) _).alloc (by simp) _).alloc (by simp; omega) _)
    have HX3 : Hid (Blk (((wr.alloc (.cells #[.slice pA b.phis.length pc, .slice lA ll lc, .int .i64 b.kind, .bool b.on.reg, .int .i64 b.on.n, .slice tA b.to.length tc] 78)).alloc (.map #[] 0)).alloc (.cells #[.map (some (wr.heap.size + 1))] 61)) wr.heap.size 78 #[.slice pA b.phis.length pc, .slice lA ll lc, .int .i64 b.kind, .bool b.on.reg, .int .i64 b.on.n, .slice tA b.to.length tc]) := Lib.hid (((Blk.new wr _ _).alloc _).alloc _)
    have HS3 : Hid (RegSet (((wr.alloc (.cells #[.slice pA b.phis.length pc, .slice lA ll lc, .int .i64 b.kind, .bool b.on.reg, .int .i64 b.on.n, .slice tA b.to.length tc] 78)).alloc (.map #[] 0)).alloc (.cells #[.map (some (wr.heap.size + 1))] 61)) (wr.heap.size + 1) n (fun _ => false)) := Lib.hid (by
      have h := RegSet.made (wr.alloc (.cells #[.slice pA b.phis.length pc, .slice lA ll lc, .int .i64 b.kind, .bool b.on.reg, .int .i64 b.on.n, .slice tA b.to.length tc] 78)) n
      rw [World.size_alloc] at h
      exact h.below (((Below.refl _ _).alloc (Nat.le_refl _) _)) h.lt)
    have HM3 : Hid (Blk (((wr.alloc (.cells #[.slice pA b.phis.length pc, .slice lA ll lc, .int .i64 b.kind, .bool b.on.reg, .int .i64 b.on.n, .slice tA b.to.length tc] 78)).alloc (.map #[] 0)).alloc (.cells #[.map (some (wr.heap.size + 1))] 61)) (wr.heap.size + 1 + 1) 61 #[.map (some (wr.heap.size + 1))]) := Lib.hid (by
      have h := Blk.new ((wr.alloc (.cells #[.slice pA b.phis.length pc, .slice lA ll lc, .int .i64 b.kind, .bool b.on.reg, .int .i64 b.on.n, .slice tA b.to.length tc] 78)).alloc (.map #[] 0)) 61 #[.map (some (wr.heap.size + 1))]
      rw [World.size_alloc, World.size_alloc] at h
      exact h)
    have HK3 := Lib.hid (hM.out.below HB3.out)
    have HJ3 := Lib.hid (HJ.out _ _ _ hzw HJj.out (MapsOnly.of_below _ HB3.out))
    have HMo3 := Lib.hid (HMo.out.trans (MapsOnly.of_below _ HB3.out))
    have HRw3 := Lib.hid (IntsAt.maps (MapsOnly.of_below (fun _ => False) HB3.out) HRw.out wr.heap.size (Nat.le_refl _))
    have r0 := (bcell HB3.out (block_lt_of_cell r0)).trans r0
    have hvgr : vg < wr.heap.size := Nat.lt_of_lt_of_le hvg2 HMo.out.size
    clear p0 p1 p2 p3 p4 p5 hM HJj HMo HRw
    have hbnw : w.heap.size ≤ wr.heap.size + 1 := by omega
    generalize (((wr.alloc (.cells #[.slice pA b.phis.length pc, .slice lA ll lc, .int .i64 b.kind, .bool b.on.reg, .int .i64 b.on.n, .slice tA b.to.length tc] 78)).alloc (.map #[] 0)).alloc (.cells #[.map (some (wr.heap.size + 1))] 61)) = W3 at *
    generalize hgb : wr.heap.size = gb at *
    generalize hbn : gb + 1 = bn at *
    generalize hgm : bn + 1 = gm at *
    obtain ⟨Lr, hLr⟩ : ∃ Lr, listS n (outS b.to (inU f.blocks)) = Lr := ⟨_, rfl⟩
    rw [hLr] at HRw3 r0
    have HLr := Lib.hid hLr
    clear hLr
    obtain ⟨A', c', eA, hr1, hr2, hr3⟩ := HRw3.out
    obtain rfl : A' = rA := ((Value.slice.inj eA).1).symm
    obtain ⟨rl, hrl⟩ : ∃ rl, Lr.length = rl := ⟨_, rfl⟩
    rw [hrl] at r0 hr1 hr3
    have Hrl := Lib.hid hrl
    have Hr3 := Lib.hid hr3
    have hrl100 : rl ≤ 100 := by
      have h := listS_len n (outS b.to (inU f.blocks))
      rw [HLr.out] at h
      omega
    clear eA hr1 hr2 hr3 hrl
    go_wp2_with fail
    go_loopg [40] rl (fun gk i wx => ∃ q : Nat, q + gk = rl ∧ i = .int .i64 (q : Int) ∧ Hid (RegSet wx bn n (orS (fun _ => false) (Lr.take q))) ∧ Hid (MapsOnly (fun k => k = bn) W3 wx))
    case atStart => exact ⟨0, by omega, rfl, Lib.hid (by rw [List.take_zero, orS_nil]; exact HS3.out), Lib.hid (MapsOnly.refl _ _)⟩
    case round =>
      obtain ⟨q, hq, rfl, HSq, HMq⟩ := hrel
      clear r0
      rcases gk with _ | nk
      · have hqt : ¬ (q : Int) < (rl : Int) := by omega
        have HS4 : Hid (RegSet wr bn n (outS b.to (inU f.blocks))) := Lib.hid (by
          have h := HSq.out
          rw [List.take_of_length_le (by rw [Hrl.out]; omega), ← HLr.out, orS_listS (outS_range HRg.out b.to)] at h
          exact h)
        have m0 := HMq.out.cell (HM3.out.cell 0)
        have x3 := HMq.out.cell (HX3.out.cell 3)
        have x4 := HMq.out.cell (HX3.out.cell 4)
        go_wp2_with fail
        refine (put_any b.on bn n (outS b.to (inU f.blocks)) wr hn HS4.out HOb.out).mono ?_
        rintro e w5 ⟨rfl, hs5, hb5⟩
        rw [endU_out] at hs5
        have HS5 := Lib.hid hs5
        have HM5 : Hid (MapsOnly (fun k => k = bn) W3 w5) := Lib.hid (HMq.out.trans (MapsOnly.of_but hb5 HS4.out rfl))
        have x1 := HM5.out.cell (HX3.out.cell 1)
        clear hs5 hb5 m0 x3 x4 HSq HMq
        go_wp2_with fail
        refine (Backward_any lA ll lc w5).mono ?_
        rintro e w6 ⟨rfl, rfl⟩
        clear x1
        have HS6 := Lib.hid (HS5.out.below ((Below.refl _ _).alloc (Nat.le_refl _) (.cells #[.slice lA ll lc] 74)) HS5.out.lt)
        have HM6 : Hid (MapsOnly (fun k => k = bn) W3 (w5.alloc (.cells #[.slice lA ll lc] 74))) := Lib.hid (HM5.out.trans (MapsOnly.of_below _ ((Below.refl _ _).alloc (Nat.le_refl _) _)))
        have HV6 : Hid (Blk (w5.alloc (.cells #[.slice lA ll lc] 74)) w5.heap.size 74 #[.slice lA ll lc]) := Lib.hid (Blk.new _ _ _)
        have hvb : w5.heap.size ≠ bn := by have := HS5.out.lt; omega
        have hbn6 : bn < (w5.alloc (.cells #[.slice lA ll lc] 74)).heap.size := HS6.out.lt
        have Hcell6 : Hid (∀ b o u, W2.cell? ⟨b, o, none⟩ = some u → (w5.alloc (.cells #[.slice lA ll lc] 74)).cell? ⟨b, o, none⟩ = some u) := Lib.hid (fun b o u h => HM6.out.cell (HMo3.out.cell h))
        have HL6 : Hid (InssAt (w5.alloc (.cells #[.slice lA ll lc] 74)) w.heap.size (.slice lA ll lc) b.list) := Lib.hid ((HLI.out.move (Nat.le_refl _) (kept_of HB2.out (Nat.le_refl _))).pos Hcell6.out)
        have hz6 : w.heap.size ≤ (w5.alloc (.cells #[.slice lA ll lc] 74)).heap.size := by omega
        have HK6 : Hid (Marks w.heap.size ds (w5.alloc (.cells #[.slice lA ll lc] 74))) := Lib.hid (HK3.out.kept fun D hD1 hD => (HM6.out.block D (Array.getElem?_eq_some_iff.1 hD).1 (fun e => by
          obtain ⟨⟨_, ⟨_, _, h1, _⟩, _⟩, _⟩ := HS3.out
          rw [e, h1] at hD
          cases hD)).trans hD)
        have HJ6 : Hid (J (evAll f.blocks j) (w5.alloc (.cells #[.slice lA ll lc] 74))) := Lib.hid (HJ.out _ _ _ (Nat.le_trans HB2.out.size HMo3.out.size) HJ3.out (HM6.out.wider fun k e => by omega))
        clear HS5 HM5 HS4
        generalize w5.alloc (.cells #[.slice lA ll lc] 74) = W6 at *
        generalize w5.heap.size = zv at *
        go_wp2_with fail
        obtain ⟨E, hE⟩ : ∃ E, endU b (inU f.blocks) = E := ⟨_, rfl⟩
        rw [hE] at HS6
        have HE := Lib.hid hE
        clear hE
        refine wp_range_maps2 (p0 := 56) (p := 57) (q := 14) 69 bn (fun k => M k ∨ k = bn) (fun k h => by rcases h with h | h; have := HMw.out k h; omega; omega) (gf := 71) (lb := #[.pointer (some ⟨zv, 0, none⟩)]) rfl (fun a W => MuLone.run_callFunc_enter Tryz.func71 (by kernel_rfl) rfl a W)
          (enc0 := fun q : BackEl W6 w.heap.size b.list => .int .i64 (q.1.1 : Int)) (enc := fun q => .agg q.cells) (cells := fun q => q.cells)
          (back_stops 4 (by omega) zv bn w.heap.size b.list lA ll lc W6 hvb hbnw hz6 HV6.out HL6.out)
          (BkNow W6 w.heap.size bn n b.list E J (evAll f.blocks j) (fun k => M k ∨ k = bn))
          (fun s A B row hs hg hr => ⟨HJ.out _ _ _ (Nat.le_trans hz6 hs.2.2.size) hs.1 (maps_of_grown hg fun r e => ⟨Nat.le_trans hz6 (hr r e).1, (hr r e).2⟩), hs.2.1.grown hg hbn6 (fun r e => (hr r e).1), hs.2.2.grown hg hr⟩)
          ⟨by simp only [List.map_nil, evF, List.append_nil]; exact HJ6.out, HS6.out, MapsOnly.refl _ _⟩ ?assign
          (fun pre W o hz hi => ⟨HJ.out _ _ _ (Nat.le_trans hz6 hz) hi.1 (MapsOnly.of_below _ ((Below.refl _ _).alloc (Nat.le_refl _) o)), hi.2.1.below ((Below.refl _ _).alloc (Nat.le_refl _) o) hi.2.1.lt, hi.2.2.trans (MapsOnly.of_below _ ((Below.refl _ _).alloc (Nat.le_refl _) o))⟩) ?body ?done
        case assign =>
          intro lp v W K hK
          obtain ⟨⟨qi, ⟨op, dst, ⟨ar, an⟩, ⟨br, bm⟩, fn, args⟩, av⟩, hv1, hv2⟩ := v
          simp only at hv2
          obtain ⟨aA, ac, rfl, _, _⟩ := SlAt.form hv2
          simp only [List.set_cons_succ, List.set_cons_zero, BackEl.cells, insC2] at hK ⊢
          gi_wp2_with fail
          exact hK
        case body =>
          rintro lp pre v Bx W h1 hlp ⟨lr, hlr⟩ h2 ⟨hj1, hs1, hm1⟩ hv hlen
          have Hok := Lib.hid (HIb.out _ v.mem)
          obtain ⟨⟨qi, ⟨op, dst, ⟨ar, an⟩, ⟨br, bm⟩, fn, args⟩, av⟩, hv1, hv2⟩ := v
          simp only at hv2
          obtain ⟨aA, ac, rfl, _, _⟩ := SlAt.form hv2
          simp only [List.set_cons_succ, List.set_cons_zero, BackEl.cells, insC2] at hv ⊢
          have v0 := hv.cell 0
          have v1 := hv.cell 1
          have v2 := hv.cell 2
          have v3 := hv.cell 3
          have v4 := hv.cell 4
          have v5 := hv.cell 5
          have v6 := hv.cell 6
          have v7 := hv.cell 7
          have d0 := hm1.cell (Hcell6.out _ _ _ (HD2.out.cell 0))
          have m0 := hm1.cell (HM6.out.cell (HM3.out.cell 0))
          have hc := Hc.out
          have HOp : Hid (OpdsAt W w.heap.size (.slice aA args.length ac) args) := Lib.hid (hv2.pos fun _ _ _ h => hm1.cell h)
          have Hok2 : Hid (InsOk (fs.map FunU.params) (n : Int) ⟨op, dst, ⟨ar, an⟩, ⟨br, bm⟩, fn, args⟩) := Lib.hid Hok.out
          have hpre : Hid (List.map BackEl.ins (pre ++ [⟨(qi, ⟨op, dst, ⟨ar, an⟩, ⟨br, bm⟩, fn, args⟩, .slice aA args.length ac), hv1, hv2⟩]) = List.map BackEl.ins pre ++ [⟨op, dst, ⟨ar, an⟩, ⟨br, bm⟩, fn, args⟩]) := Lib.hid (by rw [List.map_append]; rfl)
          generalize (pre ++ [⟨(qi, ⟨op, dst, ⟨ar, an⟩, ⟨br, bm⟩, fn, args⟩, .slice aA args.length ac), hv1, hv2⟩] : List (BackEl W6 w.heap.size b.list)) = pre2 at *
          have HJ1 := Lib.hid hj1
          have HS1 := Lib.hid hs1
          have HM1 := Lib.hid hm1
          have HV1 := Lib.hid hv
          clear hj1 hs1 hm1 hlen hv Hok
          clear hv2
          gi_wp2_with fail
          have hW6 : W6.heap.size ≤ W.heap.size := HM1.out.size
          refine ⟨trivial, (CallsIn.inRound lp (callsIn_wide.2 (HDo.out _ ⟨op, dst, ⟨ar, an⟩, ⟨br, bm⟩, fn, args⟩ _ W bn aA ac HJ1.out (Nat.le_trans hz6 hW6) hbnw HS1.out Hok2.out))).mono ?_⟩
          rintro e Wd ⟨rfl, hjd, hmd⟩
          have hnM : ¬ M bn := fun h => by have := HMw.out bn h; omega
          have hnl : ¬ M lp := fun h => by have := HMw.out lp h; omega
          have hWd : W.heap.size ≤ Wd.heap.size := hmd.size
          have HSd := hmd.regs HS1.out hnM
          have hlr := (hmd.block lp (Array.getElem?_eq_some_iff.1 hlr).1 hnl).trans hlr
          have HVd := Lib.hid (hmd.blk HV1.out)
          have HMd : Hid (MapsOnly (fun k => M k ∨ k = bn) W6 Wd) := Lib.hid (HM1.out.trans (hmd.wider fun k h => .inl h))
          have HMW : Hid (MapsOnly (fun k => M k ∨ k = bn) W Wd) := Lib.hid (hmd.wider fun k h => .inl h)
          have HJd := Lib.hid hjd
          have m0 := hmd.cell m0
          have v1 := HVd.out.cell 1
          have HOd2 : Hid (OpdsAt Wd w.heap.size (.slice aA args.length ac) args) := Lib.hid (HOp.out.pos fun _ _ _ h => hmd.cell h)
          obtain ⟨⟨D, hown, hD⟩, hS⟩ := HSd
          have HDd := Lib.hid (And.intro hD hS)
          have HOd := Lib.hid hown
          have hkey := regKey (x := dst) (WalkArith.wf_i64 (by have := Hok2.out.dst; simp only at this; omega))
          clear hjd hmd hown hD hS HJ1 HS1 HM1 HV1 HOp v0 v2 v3 v4 v5 v6 v7 d0 hc
          gi_wp2_with (gi_at_delete; refine wpListIn_delete_own _ rfl _ _ 61 3 rfl 62 regKeyed Tryz.underlying61 _ bn (Maps.size D) D rfl HOd.out _ (.int .i64 dst) rfl hkey ?_; intro We howne hturne; have hme : MapsOnly (fun k => k = bn) Wd We := MapsOnly.of_turned hturne rfl; have hve := hme.blk HVd.out; have v0 := hve.cell 0; have v1 := hve.cell 1; have v2 := hve.cell 2; have v3 := hve.cell 3; have v4 := hve.cell 4; have v5 := hve.cell 5; have v6 := hve.cell 6; have v7 := hve.cell 7; have m0 := hme.cell m0)
          have HSe := Lib.hid (RegSet.del_ (x := dst) HDd.out.1 HDd.out.2 howne)
          have hlr := (hme.block lp (Array.getElem?_eq_some_iff.1 hlr).1 (by omega)).trans hlr
          have HVe := Lib.hid (hme.blk HVd.out)
          have HMe := Lib.hid hme
          have HOe : Hid (OpdsAt We w.heap.size (.slice aA args.length ac) args) := Lib.hid (HOd2.out.pos fun _ _ _ h => hme.cell h)
          clear howne hturne hme HVd HOd2
          refine ⟨trivial, (CallsIn.inRound lp (callsIn_wide.2 (Vals_any op dst ar br an bm fn aA args.length ac We))).mono ?_⟩
          rintro e Wf ⟨rfl, rfl⟩
          have HSf := Lib.hid (HSe.out.below ((Below.refl _ _).alloc (Nat.le_refl _) (.cells #[.int .i64 op, .int .i64 dst, .bool ar, .int .i64 an, .bool br, .int .i64 bm, .int .i64 fn, .slice aA args.length ac] 69)) HSe.out.lt)
          have HVf : Hid (Blk (We.alloc (.cells #[.int .i64 op, .int .i64 dst, .bool ar, .int .i64 an, .bool br, .int .i64 bm, .int .i64 fn, .slice aA args.length ac] 69)) We.heap.size 69 #[.int .i64 op, .int .i64 dst, .bool ar, .int .i64 an, .bool br, .int .i64 bm, .int .i64 fn, .slice aA args.length ac]) := Lib.hid (Blk.new _ _ _)
          have HMf : Hid (MapsOnly (fun k => k = bn) Wd (We.alloc (.cells #[.int .i64 op, .int .i64 dst, .bool ar, .int .i64 an, .bool br, .int .i64 bm, .int .i64 fn, .slice aA args.length ac] 69))) := Lib.hid (HMe.out.trans (MapsOnly.of_below _ ((Below.refl _ _).alloc (Nat.le_refl _) _)))
          have HOf : Hid (OpdsAt (We.alloc (.cells #[.int .i64 op, .int .i64 dst, .bool ar, .int .i64 an, .bool br, .int .i64 bm, .int .i64 fn, .slice aA args.length ac] 69)) w.heap.size (.slice aA args.length ac) args) := Lib.hid (HOe.out.pos fun b o u h => (MapsOnly.of_below (fun _ => False) ((Below.refl We.heap.size We).alloc (Nat.le_refl _) (.cells #[.int .i64 op, .int .i64 dst, .bool ar, .int .i64 an, .bool br, .int .i64 bm, .int .i64 fn, .slice aA args.length ac] 69))).cell h)
          have hzb : We.heap.size ≠ bn := by have := HSe.out.lt; omega
          have hbf : bn < (We.alloc (.cells #[.int .i64 op, .int .i64 dst, .bool ar, .int .i64 an, .bool br, .int .i64 bm, .int .i64 fn, .slice aA args.length ac] 69)).heap.size := HSf.out.lt
          have hlf : (We.alloc (.cells #[.int .i64 op, .int .i64 dst, .bool ar, .int .i64 an, .bool br, .int .i64 bm, .int .i64 fn, .slice aA args.length ac] 69)).heap[lp]? = some (.loop lr) := (Below.heap_alloc _ _ _ (Array.getElem?_eq_some_iff.1 hlr).1).trans hlr
          clear v0 v1 v2 v3 v4 v5 v6 v7 m0 HSe HVe HMe HOe hlr
          generalize We.alloc (.cells #[.int .i64 op, .int .i64 dst, .bool ar, .int .i64 an, .bool br, .int .i64 bm, .int .i64 fn, .slice aA args.length ac] 69) = Wf at *
          generalize We.heap.size = zi at *
          gi_wp2_with fail
          refine wpIn_range_mapsN (p := 67) (q := 15) hlf 66 bn (fun k => k = bn) (fun k h => by omega) (gf := 54) (lb := #[.pointer (some ⟨zi, 0, none⟩)]) rfl (fun a W => MuLone.run_callFunc_enter Tryz.func54 (by kernel_rfl) rfl a W)
            (enc := fun v : { v : Opd // v ∈ valsU ⟨op, dst, ⟨ar, an⟩, ⟨br, bm⟩, fn, args⟩ } => .agg #[.bool v.1.reg, .int .i64 v.1.n]) (cells := fun v => #[.bool v.1.reg, .int .i64 v.1.n])
            (vals_stops 2 (by omega) zi bn w.heap.size ⟨op, dst, ⟨ar, an⟩, ⟨br, bm⟩, fn, args⟩ Hok2.out.op aA args.length ac Wf hzb hbnw hbf HVf.out HOf.out)
            (BvNow Wf bn n ⟨op, dst, ⟨ar, an⟩, ⟨br, bm⟩, fn, args⟩ (backS (pre.map BackEl.ins) E))
            (fun s A B row hs hg hr => ⟨hs.1.grown hg hbf (fun r e => (hr r e).1), hs.2.grown hg hr⟩)
            ⟨by simp only [List.map_nil, occVs, List.flatten_nil, orS_nil]; exact HSf.out, MapsOnly.refl _ _⟩ ?assign2
            (fun pre2 W' o hz hi => ⟨hi.1.below ((Below.refl _ _).alloc (Nat.le_refl _) o) hi.1.lt, hi.2.trans (MapsOnly.of_below _ ((Below.refl _ _).alloc (Nat.le_refl _) o))⟩) ?body2 ?done2
          case assign2 =>
            intro lp2 v2 W' K hK
            simp only [List.set_cons_succ, List.set_cons_zero] at hK ⊢
            gi_wp2_with fail
            exact hK
          case body2 =>
            rintro lp2 pre3 v2 Bx2 W' h1' h2' ⟨hs2, hm2⟩ hv2 hlen2
            simp only [List.set_cons_succ, List.set_cons_zero]
            have w0 := hv2.cell 0
            have w1' := hv2.cell 1
            have k0 := hm2.cell (HMf.out.cell (HMd.out.cell (HM6.out.cell (HM3.out.cell 0))))
            have HS2 := Lib.hid hs2
            have HM2 := Lib.hid hm2
            clear hs2 hm2 hv2 hlen2
            gi_wp2_with fail
            refine ⟨trivial, (CallsIn.inRound lp2 (callsIn_wide.2 (put_any v2.1 bn n _ W' hn HS2.out (vals_in Hok2.out v2.1 v2.2)))).mono ?_⟩
            rintro e W'' ⟨rfl, hs3, hb3⟩
            have HF : Hid (MapsOnly (fun k => k = bn) W' W'' ∧ BvNow Wf bn n ⟨op, dst, ⟨ar, an⟩, ⟨br, bm⟩, fn, args⟩ (backS (pre.map BackEl.ins) E) (pre3 ++ [v2]) W'') := Lib.hid (by
              have hm3 : MapsOnly (fun k => k = bn) W' W'' := MapsOnly.of_but hb3 HS2.out rfl
              refine ⟨hm3, ?_, HM2.out.trans hm3⟩
              rw [List.map_append, occVs_app, List.map_singleton, occVs_one, ← orS_app]
              exact hs3)
            clear hs3 hb3 w0 w1' k0 HS2 HM2
            gi_wp2_with fail
            exact HF.out
          case done2 =>
            rintro xs2 W' hxs2 ⟨hs2, hm2⟩
            have hfin : MapsOnly (fun k => M k ∨ k = bn) W W' := HMW.out.trans ((HMf.out.wider fun k h => .inr h).trans (hm2.wider fun k h => .inr h))
            have hall : MapsOnly (fun k => M k ∨ k = bn) W6 W' := HMd.out.trans ((HMf.out.wider fun k h => .inr h).trans (hm2.wider fun k h => .inr h))
            have hjf : J (evAll f.blocks j ++ evF (pre2.map BackEl.ins) E) W' := by
              rw [hpre.out, evF_snoc, ← List.append_assoc]
              exact HJ.out _ _ _ (by omega) HJd.out ((HMf.out.wider fun k h => by omega).trans (hm2.wider fun k h => by omega))
            have hrf : RegSet W' bn n (backS (pre2.map BackEl.ins) E) := by
              rw [hpre.out, backS_snoc, ← aheadS_eq Hok2.out]
              rw [hxs2] at hs2
              exact hs2
            have HF2 := Lib.hid (And.intro hfin (And.intro hjf (And.intro hrf hall)))
            clear hfin hjf hrf hall hs2 hm2
            gi_wp2_with fail
            exact ⟨HF2.out.1, HF2.out.2.1, HF2.out.2.2.1, HF2.out.2.2.2⟩
        case done =>
          rintro D xs W hD hxs ⟨hj1, hs1, hm1⟩ hK
          rw [hxs, ← HE.out] at hj1
          have HJ1 : Hid (J (evAll f.blocks (j + 1)) W) := Lib.hid (by
            rw [evAll_succ Hbj.out]
            exact hj1)
          have HMn : Hid (Marks w.heap.size ({ target := .collected D, args := #[] } :: ds) W) := Lib.hid (HK6.out.push hz6 hD hK (fun D' hD1 hD' => (hm1.block D' (Array.getElem?_eq_some_iff.1 hD').1 (fun e => by
            rcases e with e | e
            · have := HMw.out D' e
              omega
            · obtain ⟨⟨_, ⟨_, _, h1, _⟩, _⟩, _⟩ := HS6.out
              rw [e, h1] at hD'
              cases hD')).trans hD'))
          have HMn2 : Hid (MapsOnly (Apart M w.heap.size) W2 W) := Lib.hid ((HMo3.out.trans (HM6.out.wider fun k h => .inr (by omega))).trans (hm1.wider fun k h => h.elim .inl (fun e => .inr (by omega))))
          clear hj1 hs1 hm1 hK hxs
          go_wp2_with fail
          refine Handed.intro mk (by omega) ?_
          exact hJ1 mk _ _ _ (by simp only [fill, List.set_cons_succ, List.set_cons_zero, List.getD_cons_succ, List.getD_cons_zero]) HMn.out ⟨j + 1, by omega, by simp only [List.getD_cons_succ, List.getD_cons_zero]; go_num, HJ1, HMn2⟩
      · have hqt : (q : Int) < (rl : Int) := by omega
        have hq0 : (0 : Int) ≤ (q : Int) := Int.natCast_nonneg q
        obtain ⟨x, hx⟩ : ∃ x, Lr[q]? = some x := ⟨Lr[q]'(by rw [Hrl.out]; omega), List.getElem?_eq_getElem _⟩
        obtain ⟨rb, ro, hrA, hrb, hrc⟩ := Hr3.out (by omega)
        subst hrA
        have e0 := HMq.out.cell (hrc q x hx)
        have m0 := HMq.out.cell (HM3.out.cell 0)
        have hxr : 0 ≤ x ∧ x < (n : Int) := by
          have h := List.mem_of_getElem? hx
          rw [← HLr.out, listS_mem] at h
          exact ⟨h.1, h.2.1⟩
        have hkey := regKey (wf_reg hn hxr)
        have HXr := Lib.hid hxr
        have HQ : Hid (orS (orS (fun _ => false) (Lr.take q)) [x] = orS (fun _ => false) (Lr.take (q + 1))) := Lib.hid (by
          rw [orS_app, List.take_succ_eq_append_getElem (List.getElem?_eq_some_iff.1 hx).1, (List.getElem?_eq_some_iff.1 hx).2])
        obtain ⟨⟨D, hown, hD⟩, hS⟩ := HSq.out
        have hsz := regset_size hown hD hS
        have HD := Lib.hid (And.intro hD hS)
        have HO := Lib.hid hown
        clear hx hrc hxr hown hD hS
        go_wp2_with (at_mapUpdate; refine wpList_mapUpdate_in _ rfl _ _ _ 61 rfl 3 62 regKeyed Tryz.underlying61 _ bn (Maps.size D) D rfl HO.out (by unfold maxLen; omega) _ _ (.int .i64 x) rfl rfl hkey (.agg []) [] unitElem_mk ?_; intro w5 hown5 hturn5)
        have HS5 : Hid (RegSet w5 bn n (orS (fun _ => false) (Lr.take (q + 1)))) := Lib.hid (by
          rw [← HQ.out]
          exact RegSet.put_ hn HD.out.1 HD.out.2 HO.out.isMap HXr.out hown5)
        have HM5 : Hid (MapsOnly (fun k => k = bn) W3 w5) := Lib.hid (HMq.out.trans (MapsOnly.of_turned hturn5 rfl))
        go_roundg nk
        case measure => omega
        case rel => exact ⟨q + 1, by omega, by go_num, HS5, HM5⟩
end Go.Proofs.YtiknhfbkphoceaaGreatDoor
