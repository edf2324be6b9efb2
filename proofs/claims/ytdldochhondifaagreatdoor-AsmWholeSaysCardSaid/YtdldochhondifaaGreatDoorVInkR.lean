/-
  Texts of the claim AsmWholeSays (InkR): what each proves stands at its theorems.
  Conditions: as the theorems say.
-/
import Derived.RangeFuncNested
import Derived.RangeFuncBound
import Derived.RangeFuncLeaves
import Derived.Deep.LoopGhost
import Derived.RangeFuncCalls
import Derived.OrdersIn
import Derived.Test.YtdldochhondifaaGreatDoorVIng
namespace Go.Proofs.YtdldochhondifaaGreatDoor
open Go.RowKit

/-- The marks that loops over iterators have left: each names a block of its own, that holds no calls. -/
structure Marks (B : Nat) (ds : List Deferred) (w : World) : Prop where
  all : ∀ d ∈ ds, ∃ D, d = { target := .collected D, args := #[] } ∧ B ≤ D ∧ w.heap[D]? = some (.deferred (some []))
  apart : ds.Pairwise (fun a b => a ≠ b)
theorem Marks.nil (B : Nat) (w : World) : Marks B [] w := ⟨fun _ h => by simp at h, List.Pairwise.nil⟩
theorem Marks.kept {B : Nat} {ds : List Deferred} {w w' : World} (h : Marks B ds w) (hk : ∀ D, B ≤ D → w.heap[D]? = some (.deferred (some [])) → w'.heap[D]? = some (.deferred (some []))) : Marks B ds w' :=
  ⟨fun d hd => by obtain ⟨D, e, h1, h2⟩ := h.all d hd; exact ⟨D, e, h1, hk D h1 h2⟩, h.apart⟩
theorem Marks.push {B D : Nat} {ds : List Deferred} {w w' : World} (h : Marks B ds w) (hB : B ≤ w.heap.size) (hD : w.heap.size ≤ D) (hK : w'.heap[D]? = some (.deferred (some [])))
    (hk : ∀ D, B ≤ D → w.heap[D]? = some (.deferred (some [])) → w'.heap[D]? = some (.deferred (some []))) : Marks B ({ target := .collected D, args := #[] } :: ds) w' := by
  refine ⟨fun d hd => ?_, List.pairwise_cons.2 ⟨fun d hd e => ?_, h.apart⟩⟩
  · rcases List.mem_cons.1 hd with rfl | hd
    · exact ⟨D, rfl, by omega, hK⟩
    · exact (h.kept hk).all d hd
  · obtain ⟨D', e', _, h2⟩ := h.all d hd
    have hlt := (Array.getElem?_eq_some_iff.1 h2).1
    rw [e'] at e
    injection e with e1 _
    injection e1 with e2
    omega
theorem Marks.below {B : Nat} {ds : List Deferred} {w w' : World} (h : Marks B ds w) (hb : Below w.heap.size w w') : Marks B ds w' :=
  h.kept fun D _ hD => (hb.block D (Array.getElem?_eq_some_iff.1 hD).1).trans hD
theorem Marks.set {B : Nat} {ds : List Deferred} {w : World} (h : Marks B ds w) (p : Addr) (u : Value) : Marks B ds (w.setCell p u) :=
  h.kept fun D _ hD => (KeepsOthers.setCell w p u).same D _ hD rfl
/-- What is no block of deferred calls stands. -/
structure Stands (w w' : World) : Prop where
  os : w'.os = w.os
  tape : w'.tape = w.tape
  output : w'.output = w.output
  size : w.heap.size ≤ w'.heap.size
  same : ∀ (k : Nat) (o : Obj), w.heap[k]? = some o → (∀ l, o ≠ .deferred l) → w'.heap[k]? = some o
theorem Stands.refl (w : World) : Stands w w := ⟨rfl, rfl, rfl, Nat.le_refl _, fun _ _ h _ => h⟩
theorem Stands.trans {a b c : World} (h : Stands a b) (k : Stands b c) : Stands a c := ⟨k.os.trans h.os, k.tape.trans h.tape, k.output.trans h.output, Nat.le_trans h.size k.size, fun i o hi ho => k.same i o (h.same i o hi ho) ho⟩
theorem Stands.shut {w : World} {D : Nat} (h : w.heap[D]? = some (.deferred (some []))) : Stands w (w.putObj D (.deferred none)) :=
  ⟨rfl, rfl, rfl, by simp, fun k o hk ho => by
    by_cases e : k = D
    · subst e; rw [h] at hk; cases hk; exact absurd rfl (ho _)
    · exact (World.putObj_heap_other e).trans hk⟩
theorem Stands.blk {w w' : World} {g : Nat} {t : TypeId} {cs : Array Value} (h : Stands w w') (hb : Blk w g t cs) : Blk w' g t cs := h.same _ _ hb (by intro l e; cases e)
theorem run_results_frame {P : Program} {F : Fence} {n : Nat} {fn : Func} {tmps : Array Value} {R : Ending → World → Prop} {B : Nat} : ∀ (ds : List Deferred) (w : World), Marks B ds w →
    (∀ w', Stands w w' → (∀ k, k < B → w'.heap[k]? = w.heap[k]?) → ∃ v, (results fn tmps).run P w' = .ok v w' ∧ R (.returned v) w') → LeavesInM F n P fn tmps R ds .returning w
  | [], w, _, h => h w (Stands.refl w) (fun _ _ => rfl)
  | d :: ds, w, hM, h => by
    obtain ⟨D, rfl, hB, hD⟩ := hM.all d (by simp)
    refine ⟨by simp, .inl ⟨D, _, rfl, run_takeDeferred hD, ?_⟩⟩
    refine run_results_frame ds _ ⟨fun d' hd' => ?_, (List.pairwise_cons.1 hM.apart).2⟩ (fun w' hs hb => h w' ((Stands.shut hD).trans hs) fun k hk => (hb k hk).trans (World.putObj_heap_other (by omega)))
    obtain ⟨D', e', hB', hD'⟩ := hM.all d' (List.mem_cons_of_mem _ hd')
    refine ⟨D', e', hB', (World.putObj_heap_other fun e => ?_).trans hD'⟩
    exact (List.pairwise_cons.1 hM.apart).1 d' hd' (by rw [e', e])
theorem Stands.below {B : Nat} {w w' : World} (h : Stands w w') (hb : ∀ k, k < B → w'.heap[k]? = w.heap[k]?) : Below B w w' := ⟨h.os, h.tape, h.output, h.size, hb⟩

/-- What lay below S stands, but for block g. -/
structure BelowBut (g S : Nat) (w w' : World) : Prop where
  os : w'.os = w.os
  tape : w'.tape = w.tape
  output : w'.output = w.output
  size : w.heap.size ≤ w'.heap.size
  block : ∀ k, k < S → k ≠ g → w'.heap[k]? = w.heap[k]?
theorem BelowBut.refl (g S : Nat) (w : World) : BelowBut g S w w := ⟨rfl, rfl, rfl, Nat.le_refl _, fun _ _ _ => rfl⟩
theorem BelowBut.trans {g S : Nat} {a b c : World} (h : BelowBut g S a b) (k : BelowBut g S b c) : BelowBut g S a c :=
  ⟨k.os.trans h.os, k.tape.trans h.tape, k.output.trans h.output, Nat.le_trans h.size k.size, fun i hi hg => (k.block i hi hg).trans (h.block i hi hg)⟩
theorem but_of {g S : Nat} {a b : World} (h : Below S a b) : BelowBut g S a b := ⟨h.os, h.tape, h.output, h.size, fun k hk _ => h.block k hk⟩
theorem BelowBut.below {g S B : Nat} {a b : World} (h : BelowBut g S a b) (hS : B ≤ S) (hg : B ≤ g) : Below B a b := ⟨h.os, h.tape, h.output, h.size, fun k hk => h.block k (by omega) (by omega)⟩
theorem BelowBut.set (g S : Nat) (w : World) (o : Nat) (u : Value) : BelowBut g S w (w.setCell ⟨g, o, none⟩ u) :=
  ⟨rfl, rfl, rfl, (KeepsWalks.setCell w ⟨g, o, none⟩ u).size, fun k _ hk => Below.heap_setCell w ⟨g, o, none⟩ u k hk⟩
theorem BelowBut.alloc {g S : Nat} {a b : World} (h : BelowBut g S a b) (hS : S ≤ b.heap.size) (o : Obj) : BelowBut g S a (b.alloc o) := h.trans (but_of ((Below.refl _ _).alloc hS o))
theorem BelowBut.grown {g S : Nat} {a b c : World} {row : Option Nat} (h : BelowBut g S a b) (hg : b.grownBy c row) (hS : S ≤ b.heap.size) (hr : ∀ r, row = some r → S ≤ r ∨ r = g) : BelowBut g S a c :=
  ⟨hg.os.trans h.os, hg.tape.trans h.tape, hg.output.trans h.output, Nat.le_trans h.size hg.size, fun k hk hne => (hg.block k (by omega) (fun e => by rcases hr k e.symm with h1 | h1 <;> omega)).trans (h.block k hk hne)⟩
theorem BelowBut.cell {g S : Nat} {a b : World} (h : BelowBut g S a b) {k o : Nat} (hk : k < S) (hg : k ≠ g) : b.cell? ⟨k, o, none⟩ = a.cell? ⟨k, o, none⟩ := World.cell?_of_block (a := ⟨k, o, none⟩) (h.block k hk hg)
theorem BelowBut.blk {g S : Nat} {a b : World} (h : BelowBut g S a b) {k : Nat} {t : TypeId} {cs : Array Value} (hb : Blk a k t cs) (hk : k < S) (hg : k ≠ g) : Blk b k t cs := (h.block k hk hg).trans hb
theorem butK_b {g S : Nat} {w : World} (hS : S ≤ w.heap.size) (W : World) (l : Nat) (o o' : Obj) (hl : w.heap.size ≤ l) (h : W.heap[l]? = some o) (_ : o.isCells = false) (_ : o.isWalk = false) : BelowBut g S W (W.putObj l o') :=
  (BelowBut.refl g S W).grown (grownBy_putObj' W l o') (by have := (Array.getElem?_eq_some_iff.1 h).1; omega) (fun r e => by cases e; exact .inl (by omega))
theorem keepsFrom_of_but {g S B : Nat} {w w' : World} (h : BelowBut g S w w') (hS : w.heap.size ≤ S) (hg : g < B) : KeepsFrom B w w' :=
  ⟨h.size, fun k o hB hk _ => (h.block k (by have := (Array.getElem?_eq_some_iff.1 hk).1; omega) (by omega)).trans hk⟩
/-- Whatever is cells stands, but for block g. -/
structure CellsBut (g : Nat) (w w' : World) : Prop where
  size : w.heap.size ≤ w'.heap.size
  same : ∀ (k : Nat) (o : Obj), k ≠ g → w.heap[k]? = some o → o.isCells = true → w'.heap[k]? = some o
theorem CellsBut.refl (g : Nat) (w : World) : CellsBut g w w := ⟨Nat.le_refl _, fun _ _ _ h _ => h⟩
theorem CellsBut.trans {g : Nat} {a b c : World} (h : CellsBut g a b) (k : CellsBut g b c) : CellsBut g a c := ⟨Nat.le_trans h.size k.size, fun i o hg hi ho => k.same i o hg (h.same i o hg hi ho) ho⟩
theorem BelowBut.cells {g S : Nat} {a b : World} (h : BelowBut g S a b) (hS : a.heap.size ≤ S) : CellsBut g a b :=
  ⟨h.size, fun k o hg hk _ => (h.block k (by have := (Array.getElem?_eq_some_iff.1 hk).1; omega) hg).trans hk⟩
theorem CellsBut.blk {g : Nat} {a b : World} (h : CellsBut g a b) {k : Nat} {t : TypeId} {cs : Array Value} (hb : Blk a k t cs) (hg : k ≠ g) : Blk b k t cs := h.same _ _ hg hb rfl
theorem CellsBut.cell {g : Nat} {a b : World} (h : CellsBut g a b) {k o : Nat} {u : Value} (hc : a.cell? ⟨k, o, none⟩ = some u) (hg : k ≠ g) : b.cell? ⟨k, o, none⟩ = some u := by
  cases ho : a.heap[k]? with
  | none => simp [World.cell?, ho] at hc
  | some ob =>
    cases hi : ob.isCells with
    | false => cases ob <;> first | (simp [World.cell?, ho] at hc; done) | (simp [Obj.isCells] at hi)
    | true => rw [World.cell?_of_block (a := ⟨k, o, none⟩) (w := a) (w' := b) ((h.same _ _ hg ho hi).trans ho.symm)]; exact hc
end Go.Proofs.YtdldochhondifaaGreatDoor
namespace Go.Proofs.YtdldochhondifaaGreatDoor
open Go Go.RowKit

/-- An iterator that yields lists of S, one after the other, and writes block gs alone; the body keeps Kp. -/
def SeqW {α : Type} (P : Program) (gf : Nat) (lb : Array Value) (enc : α → Value) (Kp : World → World → Prop) (gs : Nat) (S : List α → Prop) (N : Nat) (w : World) : Prop :=
  ∀ (l : Nat) (J : List α → World → Prop) (W : World), Below w.heap.size w W → AbidesFrom W.heap.size J → (∀ pre A o u, J pre A → J pre (A.setCell ⟨gs, o, none⟩ u)) →
    (∀ pre x W1, J pre W1 → pre.length < N → YieldAt Fence.wide 1 P l #[enc x] W1 fun e W' => e = .returned (.bool true) ∧ J (pre ++ [x]) W' ∧ Kp W1 W') →
    J [] W → CallsIn Fence.wide 2 P gf (#[.func (.yield l) #[] #[]] ++ lb) W fun e W' => (∃ v, e = .returned v) ∧ ∃ xs, S xs ∧ J xs W'
theorem set_other {A : World} {gs o k : Nat} {u : Value} {ob : Obj} (h : A.heap[k]? = some ob) (hk : k ≠ gs) : (A.setCell ⟨gs, o, none⟩ u).heap[k]? = some ob :=
  (Below.heap_setCell A ⟨gs, o, none⟩ u k hk).trans h
theorem wp_range_writes {P : Program} {α : Type} {g : Operand} {p q : Nat} {assign body : Code} {Q : Exit → Act → World → Prop} {l : List Value} {ds : List Deferred} {w : World} (go gs : Nat) {gf : Nat} {lb : Array Value}
    (hg : (⟨l.toArray, ds⟩ : Act).eval g = .func (.func gf) #[] lb) (eg : ∀ args w, (callFunc gf args).run P w = .ok (.enter gf args) w)
    {enc : α → Value} {S : List α → Prop} {N : Nat} (hseq : SeqW P gf lb enc (BelowBut go w.heap.size) gs S N w) (hgs : gs < w.heap.size)
    (I : List α → World → Prop) (hI : OwnFrom w.heap.size I) (hIs : ∀ pre A o u, I pre A → I pre (A.setCell ⟨gs, o, none⟩ u)) (h0 : I [] w)
    (hassign : ∀ (lp : Nat) (x : α) (W : World) (K : Act → World → Prop), K ⟨((l.set p (enc x)).set q (enc x)).toArray, []⟩ W →
      assign.wpIn (Fence.wide.inRound lp) 1 P (Exit.then K (fun _ _ _ => False)) ⟨(l.set p (enc x)).toArray, []⟩ W)
    (hbody : ∀ (lp : Nat) (pre : List α) (x : α) (W : World), w.heap.size ≤ W.heap.size → I pre W → pre.length < N →
      body.wpIn (Fence.wide.inRound lp) 1 P (fun e _ W' => e = .normal ∧ KeepsFrom w.heap.size W W' ∧ BelowBut go w.heap.size W W' ∧ I (pre ++ [x]) W') ⟨((l.set p (enc x)).set q (enc x)).toArray, []⟩ W)
    (hdone : ∀ (D : Nat) (xs : List α) (W : World), w.heap.size ≤ D → S xs → I xs W → W.heap[D]? = some (.deferred (some [])) → Q .normal ⟨l.toArray, { target := .collected D, args := #[] } :: ds⟩ W) :
    (Code.rangeFunc g #[p] assign body).wp P Q ⟨l.toArray, ds⟩ w := by
  refine (wpIn_wide (n := 3)).1 (wpIn_rangeFunc fun fn hfn => ?_)
  obtain ⟨H, hH⟩ : ∃ H, w.heap.size = H := ⟨_, rfl⟩
  rw [hH] at hgs
  obtain ⟨rec, hrec⟩ : ∃ rec : LoopState → Option Code → Loop, rec = fun st pe => { state := st, pending := pe, fn, tmps := l.toArray, params := #[p], assign, body, defers := H } := ⟨_, rfl⟩
  obtain ⟨W1, hW1⟩ : ∃ W1, (w.alloc (.deferred (some []))).alloc (.loop (rec .ready none)) = W1 := ⟨_, rfl⟩
  have hs1 : W1.heap.size = H + 2 := by rw [← hW1]; simp [hH]
  have hL : W1.heap[H + 1]? = some (.loop (rec .ready none)) := by
    have := World.alloc_heap_new (w.alloc (.deferred (some []))) (.loop (rec .ready none))
    rw [World.size_alloc, hH, hW1] at this
    exact this
  have hD : W1.heap[H]? = some (.deferred (some [])) := by
    have := World.alloc_heap_new w (.deferred (some []))
    rw [hH] at this
    rw [← hW1]
    exact (Below.heap_alloc _ _ _ (by simp [hH])).trans this
  have hI1 : I [] W1 := by rw [← hW1]; exact hI.alloc _ (hI.alloc _ h0)
  have hb1 : Below w.heap.size w W1 := by rw [← hW1]; exact ((Below.refl _ w).alloc (Nat.le_refl _) _).alloc (by simp) _
  have hz : ∀ x, ((#[p] : Array Nat).zip #[enc x]).foldl (fun (t : Array Value) (pv : Nat × Value) => t.setIfInBounds pv.1 pv.2) l.toArray = (l.set p (enc x)).toArray := fun x => by simp
  have hsz : ∀ A : World, A.heap[H + 1]? = some (.loop (rec .ready none)) → w.heap.size ≤ A.heap.size := fun A h => by
    have := (Array.getElem?_eq_some_iff.1 h).1
    omega
  refine ⟨H + 1, [{ target := .collected H, args := #[] }], W1, { target := .fn (.func gf) lb, args := #[.func (.yield (H + 1)) #[] #[]] }, W1, gf, #[.func (.yield (H + 1)) #[] #[]] ++ lb, W1, ?_, ?_, fun _ _ => trivial, ?_, fun _ => by omega, ?_⟩
  · rw [← hW1, hrec, ← hH]
    exact run_enterLoop_outer _ _ _ _ _
  · simp only [resolve, hg]
    simp [go_sem]
  · simp [invoke, go_sem, eg]
  · refine (hseq (H + 1) (fun pre W => I pre W ∧ W.heap[H + 1]? = some (.loop (rec .ready none)) ∧ W.heap[H]? = some (.deferred (some []))) W1 hb1 ?_ ?_ ?_ ⟨hI1, hL, hD⟩).mono ?_
    · intro s A B row hs hg' hr
      have hr' : ∀ r, row = some r → w.heap.size ≤ r ∧ ∃ o : Obj, A.heap[r]? = some o ∧ o.isCells = false := fun r e => by
        obtain ⟨h1, o, h2, h3⟩ := hr r e
        exact ⟨by omega, o, h2, Obj.not_cells_of_walk h3⟩
      exact ⟨hI s A B row hs.1 hg' hr', (grownBy_keeps hg' (fun r e => (hr r e).2) hs.2.1 rfl).trans hs.2.1, (grownBy_keeps hg' (fun r e => (hr r e).2) hs.2.2 rfl).trans hs.2.2⟩
    · intro pre A o u hs
      exact ⟨hIs pre A o u hs.1, set_other hs.2.1 (by omega), set_other hs.2.2 (by omega)⟩
    · rintro pre x W ⟨hi, hl, hd⟩ hlen
      have hlt : H + 1 < W.heap.size := (Array.getElem?_eq_some_iff.1 hl).1
      have hy := run_yield (P := P) (args := #[enc x]) hl (by rw [hrec]; rfl)
      rw [hrec] at hy
      refine ⟨fn, _, assign, body, hy, roundIn_of_wpIn hfn ?_⟩
      have hz' := hz x
      simp only at hz' ⊢
      rw [hz']
      refine hassign _ x W _ ⟨_, run_beginRound hl (by rw [hrec]), ?_⟩
      obtain ⟨V, hV⟩ : ∃ V, W.putObj (H + 1) (.loop { rec .ready none with state := .busy }) = V := ⟨_, rfl⟩
      have hl2 : V.heap[H + 1]? = some (.loop { rec .ready none with state := .busy }) := by rw [← hV]; exact World.putObj_heap_same hlt
      have hd2 : V.heap[H]? = some (.deferred (some [])) := by rw [← hV]; exact (World.putObj_heap_other (by omega)).trans hd
      have hc2 : BelowBut go w.heap.size W V := by rw [← hV]; exact butK_b (w := w) (Nat.le_refl _) W (H + 1) _ _ (by omega) hl rfl rfl
      have hi2 : I pre V := by rw [← hV]; exact hI.putObj _ hi (by omega) hl rfl
      have hVz : w.heap.size ≤ V.heap.size := by have := (Array.getElem?_eq_some_iff.1 hl2).1; omega
      rw [hV]
      refine wpIn_mono (hbody (H + 1) pre x V hVz hi2 hlen) ?_
      rintro e a3 W3 ⟨rfl, hk3, hb3, hi3⟩
      have hl3 : W3.heap[H + 1]? = some (.loop { rec .ready none with state := .busy }) := hk3.same _ _ (by omega) hl2 rfl
      have hd3 : W3.heap[H]? = some (.deferred (some [])) := hk3.same _ _ (by omega) hd2 rfl
      have hr := run_endRound (P := P) none hl3
      have hl4 : (W3.putObj (H + 1) (.loop (rec .ready none))).heap[H + 1]? = some (.loop (rec .ready none)) := World.putObj_heap_same (Array.getElem?_eq_some_iff.1 hl3).1
      have hd4 : (W3.putObj (H + 1) (.loop (rec .ready none))).heap[H]? = some (.deferred (some [])) := (World.putObj_heap_other (by omega)).trans hd3
      have hc3 : BelowBut go w.heap.size W (W3.putObj (H + 1) (.loop (rec .ready none))) := (hc2.trans hb3).trans (butK_b (w := w) (Nat.le_refl _) W3 (H + 1) _ _ (by omega) hl3 rfl rfl)
      have hi4 : I (pre ++ [x]) (W3.putObj (H + 1) (.loop (rec .ready none))) := hI.putObj _ hi3 (by omega) hl3 rfl
      rw [hrec] at hr hl4 hd4 hc3 hi4 ⊢
      exact ⟨_, _, hr, rfl, ⟨hi4, hl4, hd4⟩, hc3⟩
    · rintro e W2 ⟨⟨v, rfl⟩, xs, hS, hi, hl, hd⟩
      have := run_endLoop (P := P) hl (by rw [hrec]; simp)
      rw [hrec] at this hl
      exact ⟨none, _, this, hdone H xs _ (by omega) hS (hI.putObj _ hi (by omega) hl rfl) ((World.putObj_heap_other (by omega)).trans hd)⟩
end Go.Proofs.YtdldochhondifaaGreatDoor
namespace Go.Proofs.YtdldochhondifaaGreatDoor
open Go

section
variable {P : Program}
/-- Operation j waits for operation k. -/
def lateO (l : List Oper) (k j : Nat) : Bool := match l[j]? with
  | some o => o.after.toList.any fun e => e.on == k && Region.binds .any e
  | none => false
/-- The region's edges order each operation behind, or ahead of, those that write the slots it reads. -/
def lexLate (ops : Array Oper) : Bool := Region.noSelect ops && (List.range ops.size).all fun i => match ops[i]? with
  | some oi => (oi.after.toList.all fun e => !Region.binds .any e || decide (e.on < i)) && (List.range ops.size).all fun j => match ops[j]? with
    | some oj => (match oj.dst with
      | some d => (i == j || oi.dst != some d) && (!(oi.looksAt ops).contains d || (oi.after.toList.any fun e => Region.binds .any e && e.on == j) || (oj.after.toList.any fun e => Region.binds .any e && e.on == i))
      | none => true)
    | none => true
  | none => true
theorem lexLate_spec {ops : Array Oper} (h : lexLate ops = true) (i : Nat) (oi : Oper) (hi : ops[i]? = some oi) :
    (∀ e, e ∈ oi.after.toList → Region.binds .any e = true → e.on < i) ∧
    ∀ (j : Nat) (oj : Oper) (d : Tmp), ops[j]? = some oj → oj.dst = some d → (i ≠ j → oi.dst ≠ some d) ∧
      (d ∈ oi.looksAt ops → (∃ e, e ∈ oi.after.toList ∧ Region.binds .any e = true ∧ e.on = j) ∨ ∃ e, e ∈ oj.after.toList ∧ Region.binds .any e = true ∧ e.on = i) := by
  unfold lexLate at h
  rw [Bool.and_eq_true, List.all_eq_true] at h
  have hi' : i < ops.size := by
    rcases Nat.lt_or_ge i ops.size with h' | h'
    · exact h'
    · rw [Array.getElem?_eq_none h'] at hi; cases hi
  have h1 := h.2 i (List.mem_range.2 hi')
  simp only [hi, Bool.and_eq_true, List.all_eq_true] at h1
  refine ⟨fun e he hb => ?_, fun j oj d hj hd => ?_⟩
  · have := h1.1 e he
    simpa [hb] using this
  · have hj' : j < ops.size := by
      rcases Nat.lt_or_ge j ops.size with h' | h'
      · exact h'
      · rw [Array.getElem?_eq_none h'] at hj; cases hj
    have h2 := h1.2 j (List.mem_range.2 hj')
    simp only [hj, hd, Bool.and_eq_true, Bool.or_eq_true] at h2
    refine ⟨fun hne => ?_, fun hm => ?_⟩
    · rcases h2.1 with h3 | h3
      · exact absurd (by simpa using h3) hne
      · simpa using h3
    · rcases h2.2 with (h3 | h3) | h3
      · simp at h3; exact absurd hm h3
      · obtain ⟨e, he, h4⟩ := List.any_eq_true.1 h3
        simp only [Bool.and_eq_true, beq_iff_eq] at h4
        exact .inl ⟨e, he, h4⟩
      · obtain ⟨e, he, h4⟩ := List.any_eq_true.1 h3
        simp only [Bool.and_eq_true, beq_iff_eq] at h4
        exact .inr ⟨e, he, h4⟩
/-- Each operation, whenever it comes up, keeps C; what waits for it has not been done. -/
structure KeepsL (P : Program) (l : List Oper) (a : Act) (C : (Nat → Option Value) → World → Prop) (k : Nat) (o : Oper) : Prop where
  of ::
  run : ∀ (σ : Nat → Option Value) (vs : Nat → Value) (w : World), (∀ j u, σ j = some u → u = vs j) → Closed l σ → C σ w → σ k = none →
    (∀ e, e ∈ o.after.toList → Region.binds .any e = true → σ e.on = some (vs e.on)) →
    uponR P (fun u w' => C (upd σ k u) w') ((execOp (putO (fun j => if lateO l k j = true then none else some (vs j)) l 0 a).eval o).run P w)
def KeepsAllL (P : Program) (l : List Oper) (a : Act) (C : (Nat → Option Value) → World → Prop) : List Oper → Nat → Prop
  | [], _ => True
  | o :: r, k => (o.guard = none ∧ KeepsL P l a C k o) ∧ KeepsAllL P l a C r (k + 1)
theorem keeps_of_allL {l : List Oper} {a : Act} {C : (Nat → Option Value) → World → Prop} : ∀ (r : List Oper) (k : Nat), KeepsAllL P l a C r k → ∀ (i : Nat) (o : Oper), r[i]? = some o → o.guard = none ∧ KeepsL P l a C (k + i) o
  | [], _, _, i, o, h => by simp at h
  | x :: r, k, ⟨h1, _⟩, 0, o, h => by simp at h; subst h; exact h1
  | x :: r, k, ⟨_, h2⟩, i + 1, o, h => by
    have := keeps_of_allL r (k + 1) h2 i o (by simpa using h)
    rwa [show k + 1 + i = k + (i + 1) by omega] at this
/-- What an operation yields, behind a name that no reckoning opens. -/
structure UponR (P : Program) (C : Value → World → Prop) (r : Result Next) : Prop where
  out : uponR P C r
theorem KeepsL.mk {l : List Oper} {a : Act} {C : (Nat → Option Value) → World → Prop} {k : Nat} {o : Oper} (lt : Nat → Bool) (h : ((List.range l.length).all fun j => lateO l k j == lt j) = true)
    (hk : ∀ (σ : Nat → Option Value) (vs : Nat → Value) (w : World), (∀ j u, σ j = some u → u = vs j) → Closed l σ → C σ w → σ k = none →
      (∀ e, e ∈ o.after.toList → Region.binds .any e = true → σ e.on = some (vs e.on)) →
      UponR P (fun u w' => C (upd σ k u) w') ((execOp (putO (fun j => if lt j = true then none else some (vs j)) l 0 a).eval o).run P w)) : KeepsL P l a C k o := by
  refine ⟨fun σ vs w h1 h2 h3 h4 h5 => ?_⟩
  rw [putO_congr (τ := fun j => if lt j = true then none else some (vs j)) l 0 a fun j _ hj => by
    have := List.all_eq_true.1 h j (List.mem_range.2 (by omega))
    rw [beq_iff_eq] at this
    simp only [this]]
  exact (hk σ vs w h1 h2 h3 h4 h5).out
end
end Go.Proofs.YtdldochhondifaaGreatDoor
namespace Go.Proofs.YtdldochhondifaaGreatDoor
open Go

section
variable {P : Program}
theorem wpAnyIn_late {n lp : Nat} {ops : Array Oper} {l : List Oper} (hl : ops = l.toArray) {C : (Nat → Option Value) → World → Prop} {Q : Exit → Act → World → Prop} {a : Act} (hB : lexLate ops = true) (hdf : ∀ (i : Nat) (o : Oper), l[i]? = some o → ∀ c, o.op ≠ .defer c)
    (hv : ∀ (i : Nat) (o : Oper), l[i]? = some o → o.guard = none ∧ KeepsL P l a C i o)
    (hq : ∀ (σ : Nat → Option Value) (vs : Nat → Value) (w' : World), C σ w' → (∀ j, j < l.length → σ j = some (vs j)) → Q .normal (putO (fun j => some (vs j)) l 0 a) w') :
    ∀ (fuel : Nat) (L : Array Bool) (σ : Nat → Option Value) (w' : World), L.size = l.length → (∀ j, L.getD j false = (σ j).isSome) → Closed l σ → leftN (fun j => L.getD j false) l.length ≤ fuel → C σ w' →
      wpAnyIn (Fence.wide.inRound lp) n P .any ops Q fuel L (putO σ l 0 a) w' := by
  have hops : ∀ i : Nat, ops[i]? = l[i]? := fun i => by rw [hl]; simp
  have hsz : ops.size = l.length := by rw [hl]; simp
  have hsel := Region.noSelect_spec (ops := ops) (by unfold lexLate at hB; exact (Bool.and_eq_true_iff.1 hB).1)
  have hall : ∀ (L : Array Bool) (σ : Nat → Option Value) (w' : World), (∀ j, L.getD j false = (σ j).isSome) → C σ w' → (∀ j, j < l.length → L.getD j false = true) → Q .normal (putO σ l 0 a) w' := fun L σ w' hs hC hL => by
    have h : ∀ j, j < l.length → σ j = some ((σ j).getD undef) := fun j hj => by
      have := hL j hj
      rw [hs j] at this
      cases h : σ j with
      | none => rw [h] at this; cases this
      | some u => rfl
    rw [putO_congr (τ := fun j => some ((σ j).getD undef)) l 0 a fun j _ hj => h j (by omega)]
    exact hq σ _ w' hC h
  have mem_ready : ∀ (L : Array Bool) (i : Nat), i ∈ Region.ready .any ops L ↔ i < l.length ∧ L.getD i true = false ∧ ∃ o, l[i]? = some o ∧ ∀ e, e ∈ o.after.toList → Region.binds .any e = true → L.getD e.on false = true := by
    intro L i
    unfold Region.ready
    rw [List.mem_filter, List.mem_range, hsz]
    refine ⟨fun ⟨h1, h2⟩ => ⟨h1, ?_⟩, fun ⟨h1, h2, o, h3, h4⟩ => ⟨h1, ?_⟩⟩
    · simp only [Bool.and_eq_true, Bool.not_eq_true'] at h2
      refine ⟨h2.1, ?_⟩
      have h3 := h2.2
      rw [hops] at h3
      cases ho : l[i]? with
      | none => rw [ho] at h3; simp at h3
      | some o =>
        rw [ho] at h3
        refine ⟨o, rfl, fun e he hb => ?_⟩
        simp only [Option.map_some, Option.getD_some] at h3
        have := Array.all_eq_true_iff_forall_mem.1 h3 e (by simpa using he)
        simpa [hb] using this
    · simp only [Bool.and_eq_true, Bool.not_eq_true']
      refine ⟨h2, ?_⟩
      rw [hops, h3]
      simp only [Option.map_some, Option.getD_some]
      rw [Array.all_eq_true_iff_forall_mem]
      intro e he
      by_cases hb : Region.binds .any e = true
      · simp [hb, h4 e (by simpa using he) hb]
      · simp [hb]
  have getD_true : ∀ (L : Array Bool) (i : Nat), L.size = l.length → i < l.length → L.getD i true = L.getD i false := fun L i h1 h2 => by
    simp [Array.getD, h1, h2]
  have none_ready : ∀ (L : Array Bool), L.size = l.length → Region.ready .any ops L = [] → ∀ j, j < l.length → L.getD j false = true := by
    intro L hLs hr
    intro j
    induction j using Nat.strongRecOn with
    | ind j ih =>
      intro hj
      by_cases h : L.getD j false = true
      · exact h
      · exfalso
        have hmem : j ∈ Region.ready .any ops L := by
          rw [mem_ready]
          have hlj : l[j]? = some l[j] := List.getElem?_eq_getElem hj
          refine ⟨hj, by rw [getD_true L j hLs hj]; simpa using h, l[j], hlj, fun e he hb => ?_⟩
          have hlt := (lexLate_spec hB j l[j] (by rw [hops, hlj])).1 e he hb
          exact ih e.on hlt (by omega)
        rw [hr] at hmem
        cases hmem
  intro fuel
  induction fuel with
  | zero =>
    intro L σ w' hLs hs hcl hf hC
    have hl0 := leftN_zero l.length (by omega : leftN (fun j => L.getD j false) l.length = 0)
    refine ⟨?_, hall L σ w' hs hC hl0⟩
    rw [List.eq_nil_iff_forall_not_mem]
    intro i hi
    rw [mem_ready] at hi
    have := hl0 i hi.1
    rw [← getD_true L i hLs hi.1, hi.2.1] at this
    cases this
  | succ fuel ih =>
    intro L σ w' hLs hs hcl hf hC
    refine ⟨fun hr => hall L σ w' hs hC (none_ready L hLs hr), fun i hi => ?_⟩
    rw [mem_ready] at hi
    obtain ⟨hil, hLi, o, ho, hdep⟩ := hi
    obtain ⟨hgd, hK⟩ := hv i o ho
    have hLi' : L.getD i false = false := by rw [← getD_true L i hLs hil]; exact hLi
    have hσi : σ i = none := by
      have := hs i
      rw [hLi'] at this
      cases h : σ i with
      | none => rfl
      | some u => rw [h] at this; cases this
    have hset : ∀ j : Nat, (L.setIfInBounds i true).getD j false = if j = i then true else L.getD j false := by
      intro j
      simp only [Array.getD_eq_getD_getElem?]
      by_cases e : j = i
      · subst e; rw [Array.getElem?_setIfInBounds]; simp [hLs, hil]
      · rw [Array.getElem?_setIfInBounds_ne (fun h => e h.symm)]; simp [e]
    have goon : ∀ (u : Value) (w'' : World), C (upd σ i u) w'' → wpAnyIn (Fence.wide.inRound lp) n P .any ops Q fuel (L.setIfInBounds i true) ((putO σ l 0 a).put o.dst u) w'' := by
      intro u w'' hC'
      rw [putO_set (σ := σ) (τ := upd σ i u) l 0 a i o u ho (by rw [Nat.zero_add]; exact hσi) (by rw [Nat.zero_add]; exact upd_same _ _ _)
        (fun j hj => upd_ne (by omega)) (fun j o' hj hne d hd hd' => (((lexLate_spec hB i o (by rw [hops, ho])).2 j o' d (by rw [hops, hj]) hd').1 (fun e => hne e.symm)) hd)]
      refine ih _ _ w'' (by simp [hLs]) (fun j => ?_) (fun j o' hj hjs e he hb => ?_) ?_ hC'
      · rw [hset]
        unfold upd
        split
        · rfl
        · exact hs j
      · unfold upd at hjs ⊢
        split
        · rfl
        · by_cases hji : j = i
          · subst hji
            rw [ho] at hj
            cases hj
            rw [← hs]
            exact hdep e he hb
          · rw [if_neg hji] at hjs
            exact hcl j o' hj hjs e he hb
      · have := leftN_set (S := fun j => L.getD j false) (S' := fun j => (L.setIfInBounds i true).getD j false) (i := i) hLi' (by rw [hset]; simp) (fun j hj => by rw [hset, if_neg hj]) l.length hil
        omega
    have hdep' : ∀ e, e ∈ o.after.toList → Region.binds .any e = true → σ e.on = some ((fun j => (σ j).getD undef) e.on) := fun e he hb => by
      have := hdep e he hb
      rw [hs] at this
      simp only
      cases h : σ e.on with
      | none => rw [h] at this; cases this
      | some u => rfl
    have hlate : ∀ j, lateO l i j = true → σ j = none := by
      intro j hj
      cases h : σ j with
      | none => rfl
      | some u =>
        exfalso
        unfold lateO at hj
        cases ho' : l[j]? with
        | none => rw [ho'] at hj; simp at hj
        | some o' =>
          rw [ho'] at hj
          simp only [List.any_eq_true, Bool.and_eq_true, beq_iff_eq] at hj
          obtain ⟨e, he, hon, hb⟩ := hj
          have := hcl j o' ho' (by rw [h]; rfl) e he hb
          rw [hon, hσi] at this
          cases this
    have hsame : ∀ d, d ∈ o.looksAt ops → (putO σ l 0 a).tmps[d]? = (putO (fun j => if lateO l i j = true then none else some ((σ j).getD undef)) l 0 a).tmps[d]? := by
      intro d hd
      refine putO_slot d l 0 a a rfl fun j oj hj hjd => ?_
      simp only [Nat.zero_add]
      by_cases hl' : lateO l i j = true
      · rw [if_pos hl']
        exact hlate j hl'
      · rw [if_neg hl']
        rcases ((lexLate_spec hB i o (by rw [hops, ho])).2 j oj d (by rw [hops, hj]) hjd).2 hd with ⟨e, he, hb, hon⟩ | ⟨e, he, hb, hon⟩
        · have := hdep' e he hb
          rw [hon] at this
          exact this
        · exfalso
          apply hl'
          unfold lateO
          rw [hj]
          simp only [List.any_eq_true, Bool.and_eq_true, beq_iff_eq]
          exact ⟨e, he, hon, hb⟩
    have hexec : execOp (putO σ l 0 a).eval o = execOp (putO (fun j => if lateO l i j = true then none else some ((σ j).getD undef)) l 0 a).eval o := by
      refine execOp_congr o (fun cs b => hsel i o cs b (by rw [hops, ho])) fun x hx => ?_
      cases x with
      | tmp t =>
        have := hsame t (by unfold Oper.looksAt; exact List.mem_append_left _ (List.mem_filterMap.2 ⟨.tmp t, by simpa using hx, rfl⟩))
        generalize putO σ l 0 a = A at this ⊢
        generalize putO (fun j => if lateO l i j = true then none else some ((σ j).getD undef)) l 0 a = A' at this ⊢
        simp only [Act.eval, Array.getD_eq_getD_getElem?, this]
      | const v => rfl
      | global g => rfl
      | func f => rfl
    have h3 := hK.run σ (fun j => (σ j).getD undef) w' (fun j u h => by rw [h]; rfl) hcl hC hσi hdep'
    unfold wpOpIn
    rw [hops, ho]
    simp only
    rw [if_pos (by simp [Region.wanted, hgd])]
    refine ⟨fun _ _ => trivial, ?_⟩
    rw [Oper.semAt_eq _ _ _ (hdf i o ho), hexec]
    generalize (execOp (putO (fun j => if lateO l i j = true then none else some ((σ j).getD undef)) l 0 a).eval o).run P w' = r at h3 ⊢
    cases r with
    | ok r1 w'' =>
      cases r1 <;> simp only [uponR] at h3 <;> simp only [Oper.uponIn]
      case value u => exact goon _ _ h3
      case skip => exact goon _ _ h3
      case enter f args => exact ⟨fun h => (by cases h), (CallsIn.inRound lp (callsIn_wide.2 h3)).mono fun e w3 ⟨u, he, hC3⟩ => by subst he; exact goon _ _ hC3⟩
    | halt x w'' => simp only [uponR] at h3

theorem wpIn_region_late {n lp id : Nat} {l : List Oper} {Q : Exit → Act → World → Prop} {a : Act} {w : World} (C : (Nat → Option Value) → World → Prop) (hm : P.follows .mixedOrders = true) (hB : lexLate l.toArray = true) (hdf : ∀ (i : Nat) (o : Oper), l[i]? = some o → ∀ c, o.op ≠ .defer c)
    (h0 : C (fun _ => none) { w with drawn := w.drawn + 1 })
    (hv : ∀ (i : Nat) (o : Oper), l[i]? = some o → o.guard = none ∧ KeepsL P l a C i o)
    (hq : ∀ (σ : Nat → Option Value) (vs : Nat → Value) (w' : World), C σ w' → (∀ j, j < l.length → σ j = some (vs j)) → Q .normal (putO (fun j => some (vs j)) l 0 a) w') : (Code.region id l.toArray true).wpIn (Fence.wide.inRound lp) n P Q a w := by
  refine wpIn_region_any hm ?_
  have h1 := wpAnyIn_late (n := n) (lp := lp) (ops := l.toArray) rfl hB hdf hv hq l.length (Array.replicate l.length false) (fun _ => none) _ (by simp) (fun j => by
    simp only [Array.getD_eq_getD_getElem?]
    rcases Nat.lt_or_ge j l.length with h | h
    · rw [Array.getElem?_eq_getElem (by simpa using h)]; simp
    · rw [Array.getElem?_eq_none (by simpa using h)]; rfl) (fun j o hj h => by cases h) (by rw [leftN_rep _ _ (Nat.le_refl _)]; exact Nat.le_refl _) h0
  rw [putO_none _ _ _ (fun j _ => rfl)] at h1
  simpa using h1
theorem wpIn_region_keepsL {n lp id : Nat} {l : List Oper} {Q : Exit → Act → World → Prop} {a : Act} {w : World} (C : (Nat → Option Value) → World → Prop) (hm : P.follows .mixedOrders = true) (hB : lexLate l.toArray = true) (hdf : ∀ (i : Nat) (o : Oper), l[i]? = some o → ∀ c, o.op ≠ .defer c)
    (h0 : C (fun _ => none) { w with drawn := w.drawn + 1 }) (hv : KeepsAllL P l a C l 0)
    (hq : ∀ (σ : Nat → Option Value) (vs : Nat → Value) (w' : World), C σ w' → (∀ j, j < l.length → σ j = some (vs j)) → Q .normal (putO (fun j => some (vs j)) l 0 a) w') : (Code.region id l.toArray true).wpIn (Fence.wide.inRound lp) n P Q a w :=
  wpIn_region_late C hm hB hdf h0 (fun i o h => by have := keeps_of_allL l 0 hv i o h; rwa [Nat.zero_add] at this) hq
end
end Go.Proofs.YtdldochhondifaaGreatDoor
