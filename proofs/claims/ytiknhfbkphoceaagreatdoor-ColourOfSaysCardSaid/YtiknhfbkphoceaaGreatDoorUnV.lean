/-
  Several texts in one (UnR UnV): what each proves stands at its theorems.
  Conditions: as the theorems say.
-/
import Derived.Test.YtiknhfbkphoceaaGreatDoorUnL
import Derived.RangeFuncNested
import Derived.RangeFuncBound
import Derived.RangeFuncLeaves
import Derived.Deep.LoopGhost
namespace Go.Proofs.YtiknhfbkphoceaaGreatDoor
open Go.RowKit

/-- What an instruction takes, in its order. -/
def valsU (x : InsU) : List Opd := (if hasA x.op = true then [x.a] else []) ++ (if hasB x.op = true then [x.b] else []) ++ x.args
theorem occVs_app (l m : List Opd) : occVs (l ++ m) = occVs l ++ occVs m := by
  unfold occVs
  rw [List.map_append, List.flatten_append]
theorem occVs_one (v : Opd) : occVs [v] = occV v := by simp [occVs]
theorem occ_vals {ps : List Int} {regs : Int} {x : InsU} (h : InsOk ps regs x) : occVs (valsU x) = occV x.a ++ occV x.b ++ occVs x.args := by
  have h1 : occVs (if hasA x.op = true then [x.a] else []) = occV x.a := by
    by_cases ha : hasA x.op = true
    · rw [if_pos ha, occVs_one]
    · rw [if_neg ha, h.noA (by simpa using ha)]; rfl
  have h2 : occVs (if hasB x.op = true then [x.b] else []) = occV x.b := by
    by_cases ha : hasB x.op = true
    · rw [if_pos ha, occVs_one]
    · rw [if_neg ha, h.noB (by simpa using ha)]; rfl
  unfold valsU
  rw [occVs_app, occVs_app, h1, h2]
theorem vals_in {ps : List Int} {regs : Int} {x : InsU} (h : InsOk ps regs x) : ∀ v ∈ valsU x, v.reg = true → 0 ≤ v.n ∧ v.n < regs := by
  intro v hv
  unfold valsU at hv
  rcases List.mem_append.1 hv with hv | hv
  · rcases List.mem_append.1 hv with hv | hv
    · split at hv
      · simp only [List.mem_cons, List.not_mem_nil, or_false] at hv; subst hv; exact h.a
      · cases hv
    · split at hv
      · simp only [List.mem_cons, List.not_mem_nil, or_false] at hv; subst hv; exact h.b
      · cases hv
  · exact h.args v hv
theorem vals_len (x : InsU) : (valsU x).length ≤ 2 + x.args.length := by
  unfold valsU
  simp only [List.length_append]
  split <;> split <;> simp only [List.length_cons, List.length_nil] <;> omega
/-- Does an instruction read a register? -/
def takesU (x : InsU) (r : Int) : Bool := decide (r ∈ occV x.a ++ occV x.b ++ occVs x.args)
theorem takes_vals {ps : List Int} {regs : Int} {x : InsU} (h : InsOk ps regs x) (r : Int) : takesU x r = decide (r ∈ occVs (valsU x)) := by rw [occ_vals h]; rfl
/-- Back through some instructions: what is live ahead of them, by what is live behind them. -/
def upTo : List InsU → (Int → Bool) → Int → Bool
  | [], S, r => S r
  | x :: xs, S, r => takesU x r || (upTo xs S r && decide (x.dst ≠ r))
theorem upTo_mono {xs : List InsU} {S T : Int → Bool} (h : ∀ r, S r = true → T r = true) : ∀ r, upTo xs S r = true → upTo xs T r = true := by
  induction xs with
  | nil => exact h
  | cons x xs ih =>
    intro r hr
    simp only [upTo, Bool.or_eq_true, Bool.and_eq_true] at hr ⊢
    rcases hr with h1 | ⟨h1, h2⟩
    · exact .inl h1
    · exact .inr ⟨ih r h1, h2⟩
theorem upTo_congr {xs : List InsU} {S T : Int → Bool} (h : ∀ r, S r = T r) (r : Int) : upTo xs S r = upTo xs T r := by
  rw [show S = T from funext h]
/-- What is live at a block's end, by what is live ahead of each block. -/
def endU (b : BlkU) (I : Nat → Int → Bool) (r : Int) : Bool := decide (r ∈ occV b.on) || b.to.any fun t => I t.toNat r
theorem endU_mono {b : BlkU} {I J : Nat → Int → Bool} (h : ∀ i r, I i r = true → J i r = true) (r : Int) (hr : endU b I r = true) : endU b J r = true := by
  unfold endU at *
  simp only [Bool.or_eq_true, List.any_eq_true] at *
  rcases hr with h1 | ⟨t, ht, h1⟩
  · exact .inl h1
  · exact .inr ⟨t, ht, h _ _ h1⟩
/-- One step of the equations: what is live ahead of a block. -/
def stepU (bs : List BlkU) (I : Nat → Int → Bool) (i : Nat) (r : Int) : Bool := match bs[i]? with
  | some b => upTo b.list (endU b I) r
  | none => false
theorem stepU_at {bs : List BlkU} {I : Nat → Int → Bool} {i : Nat} {b : BlkU} (h : bs[i]? = some b) (r : Int) : stepU bs I i r = upTo b.list (endU b I) r := by unfold stepU; rw [h]
theorem stepU_mono {bs : List BlkU} {I J : Nat → Int → Bool} (h : ∀ i r, I i r = true → J i r = true) (i : Nat) (r : Int) (hr : stepU bs I i r = true) : stepU bs J i r = true := by
  unfold stepU at *
  split at hr
  · exact upTo_mono (fun r => endU_mono h r) r hr
  · cases hr
/-- Live ahead of a block: in all that the equations let be. -/
def InU (bs : List BlkU) (i : Nat) (r : Int) : Prop := ∀ I : Nat → Int → Bool, (∀ j s, stepU bs I j s = true → I j s = true) → I i r = true
noncomputable def inU (bs : List BlkU) (i : Nat) (r : Int) : Bool := @decide (InU bs i r) (Classical.propDecidable _)
theorem inU_iff {bs : List BlkU} {i : Nat} {r : Int} : inU bs i r = true ↔ InU bs i r := by unfold inU; exact @decide_eq_true_iff _ (Classical.propDecidable _)
theorem inU_least {bs : List BlkU} {I : Nat → Int → Bool} (h : ∀ j s, stepU bs I j s = true → I j s = true) (i : Nat) (r : Int) (hr : inU bs i r = true) : I i r = true := inU_iff.1 hr I h
theorem inU_step {bs : List BlkU} (i : Nat) (r : Int) (h : stepU bs (inU bs) i r = true) : inU bs i r = true := by
  rw [inU_iff]
  intro I hI
  exact hI _ _ (stepU_mono (fun j s hs => inU_least hI j s hs) i r h)
theorem inU_eq {bs : List BlkU} (i : Nat) (r : Int) : inU bs i r = stepU bs (inU bs) i r := by
  rw [Bool.eq_iff_iff]
  refine ⟨fun h => inU_least (I := stepU bs (inU bs)) (fun j s hs => stepU_mono (fun a b hab => inU_step a b hab) j s hs) i r h, inU_step i r⟩
/-- What is live at a place of a block. -/
noncomputable def atU (bs : List BlkU) (i k : Nat) (r : Int) : Bool := match bs[i]? with
  | some b => upTo (b.list.drop k) (endU b (inU bs)) r
  | none => false
theorem atU_at {bs : List BlkU} {i k : Nat} {b : BlkU} (h : bs[i]? = some b) (r : Int) : atU bs i k r = upTo (b.list.drop k) (endU b (inU bs)) r := by unfold atU; rw [h]
theorem atU_zero {bs : List BlkU} {i : Nat} (r : Int) : atU bs i 0 r = inU bs i r := by
  rw [inU_eq]
  unfold atU stepU
  split <;> rfl
theorem atU_step {bs : List BlkU} {i k : Nat} {b : BlkU} {x : InsU} (h : bs[i]? = some b) (hx : b.list[k]? = some x) (r : Int) : atU bs i k r = (takesU x r || (atU bs i (k + 1) r && decide (x.dst ≠ r))) := by
  rw [atU_at h, atU_at h]
  have hk := (List.getElem?_eq_some_iff.1 hx).1
  rw [List.drop_eq_getElem_cons hk, (List.getElem?_eq_some_iff.1 hx).2]
  rfl
theorem atU_end {bs : List BlkU} {i : Nat} {b : BlkU} (h : bs[i]? = some b) (r : Int) : atU bs i b.list.length r = endU b (inU bs) r := by
  rw [atU_at h, List.drop_length]
  rfl
/-- What is all settled is what is live. -/
theorem inU_done {bs : List BlkU} {I : Nat → Int → Bool} (h1 : ∀ j s, stepU bs I j s = true → I j s = true) (h2 : ∀ j s, I j s = true → inU bs j s = true) (i : Nat) (r : Int) : I i r = inU bs i r := by
  rw [Bool.eq_iff_iff]
  exact ⟨h2 i r, inU_least h1 i r⟩
end Go.Proofs.YtiknhfbkphoceaaGreatDoor
namespace Go.Proofs.YtiknhfbkphoceaaGreatDoor
open Go.RowKit

/-- The marks that loops over iterators have left: each names a block of its own, that holds no calls. -/
structure Marks (B : Nat) (ds : List Deferred) (w : World) : Prop where
  all : ∀ d ∈ ds, ∃ D, d = { target := .collected D, args := #[] } ∧ B ≤ D ∧ w.heap[D]? = some (.deferred (some []))
  apart : ds.Pairwise (fun a b => a ≠ b)
theorem Marks.nil (B : Nat) (w : World) : Marks B [] w := ⟨fun _ h => by simp at h, List.Pairwise.nil⟩
theorem Marks.kept {B : Nat} {ds : List Deferred} {w w' : World} (h : Marks B ds w) (hk : ∀ D, B ≤ D → w.heap[D]? = some (.deferred (some [])) → w'.heap[D]? = some (.deferred (some []))) : Marks B ds w' :=
  ⟨fun d hd => by obtain ⟨D, e, h1, h2⟩ := h.all d hd; exact ⟨D, e, h1, hk D h1 h2⟩, h.apart⟩
theorem Marks.push {B D : Nat} {ds : List Deferred} {w w' : World} (h : Marks B ds w) (hB : B ≤ w.heap.size) (hD : w.heap.size ≤ D) (hK : w'.heap[D]? = some (.deferred (some [])))
    (hk : ∀ D, B ≤ D → w.heap[D]? = some (.deferred (some [])) → w'.heap[D]? = some (.deferred (some []))) : Marks B ({ target := .collected D, args := #[] } :: ds) w' := by
  refine ⟨fun d hd => ?_, List.pairwise_cons.2 ⟨fun d hd e => ?_, h.apart⟩⟩
  · rcases List.mem_cons.1 hd with rfl | hd
    · exact ⟨D, rfl, by omega, hK⟩
    · exact (h.kept hk).all d hd
  · obtain ⟨D', e', _, h2⟩ := h.all d hd
    have hlt := (Array.getElem?_eq_some_iff.1 h2).1
    rw [e'] at e
    injection e with e1 _
    injection e1 with e2
    omega
theorem Marks.below {B : Nat} {ds : List Deferred} {w w' : World} (h : Marks B ds w) (hb : Below w.heap.size w w') : Marks B ds w' :=
  h.kept fun D _ hD => (hb.block D (Array.getElem?_eq_some_iff.1 hD).1).trans hD
theorem Marks.set {B : Nat} {ds : List Deferred} {w : World} (h : Marks B ds w) (p : Addr) (u : Value) : Marks B ds (w.setCell p u) :=
  h.kept fun D _ hD => (KeepsOthers.setCell w p u).same D _ hD rfl
/-- What is no block of deferred calls stands. -/
structure Stands (w w' : World) : Prop where
  os : w'.os = w.os
  tape : w'.tape = w.tape
  output : w'.output = w.output
  size : w.heap.size ≤ w'.heap.size
  same : ∀ (k : Nat) (o : Obj), w.heap[k]? = some o → (∀ l, o ≠ .deferred l) → w'.heap[k]? = some o
theorem Stands.refl (w : World) : Stands w w := ⟨rfl, rfl, rfl, Nat.le_refl _, fun _ _ h _ => h⟩
theorem Stands.trans {a b c : World} (h : Stands a b) (k : Stands b c) : Stands a c := ⟨k.os.trans h.os, k.tape.trans h.tape, k.output.trans h.output, Nat.le_trans h.size k.size, fun i o hi ho => k.same i o (h.same i o hi ho) ho⟩
theorem Stands.shut {w : World} {D : Nat} (h : w.heap[D]? = some (.deferred (some []))) : Stands w (w.putObj D (.deferred none)) :=
  ⟨rfl, rfl, rfl, by simp, fun k o hk ho => by
    by_cases e : k = D
    · subst e; rw [h] at hk; cases hk; exact absurd rfl (ho _)
    · exact (World.putObj_heap_other e).trans hk⟩
theorem Stands.blk {w w' : World} {g : Nat} {t : TypeId} {cs : Array Value} (h : Stands w w') (hb : Blk w g t cs) : Blk w' g t cs := h.same _ _ hb (by intro l e; cases e)
theorem Marks.below_of {B : Nat} {ds : List Deferred} {w w' : World} (_ : Marks B ds w) (_ : Stands w w') : True := trivial
theorem run_results_frame {P : Program} {F : Fence} {n : Nat} {fn : Func} {tmps : Array Value} {R : Ending → World → Prop} {B : Nat} : ∀ (ds : List Deferred) (w : World), Marks B ds w →
    (∀ w', Stands w w' → (∀ k, k < B → w'.heap[k]? = w.heap[k]?) → ∃ v, (results fn tmps).run P w' = .ok v w' ∧ R (.returned v) w') → LeavesInM F n P fn tmps R ds .returning w
  | [], w, _, h => h w (Stands.refl w) (fun _ _ => rfl)
  | d :: ds, w, hM, h => by
    obtain ⟨D, rfl, hB, hD⟩ := hM.all d (by simp)
    refine ⟨by simp, .inl ⟨D, _, rfl, run_takeDeferred hD, ?_⟩⟩
    refine run_results_frame ds _ ⟨fun d' hd' => ?_, (List.pairwise_cons.1 hM.apart).2⟩ (fun w' hs hb => h w' ((Stands.shut hD).trans hs) fun k hk => (hb k hk).trans (World.putObj_heap_other (by omega)))
    obtain ⟨D', e', hB', hD'⟩ := hM.all d' (List.mem_cons_of_mem _ hd')
    refine ⟨D', e', hB', (World.putObj_heap_other fun e => ?_).trans hD'⟩
    exact (List.pairwise_cons.1 hM.apart).1 d' hd' (by rw [e', e])
theorem Stands.below {B : Nat} {w w' : World} (h : Stands w w') (hb : ∀ k, k < B → w'.heap[k]? = w.heap[k]?) : Below B w w' := ⟨h.os, h.tape, h.output, h.size, hb⟩

/-- The end of a function whose second result lies in a cell, behind loops over iterators. -/
theorem end_tmp_cell_m {P : Program} {F : Fence} {n : Nat} {fn : Func} {R : Ending → World → Prop} {a : Act} {w : World} {q p : Tmp} {ty t : TypeId} {g : Nat} {cs : Array Value} {d : TypeDesc} {B : Nat} (hM : Marks B a.defers w) (h : fn.results = #[.tmp q, .cell p ty])
    (hp : a.tmps.getD p undef = .pointer (some ⟨g, 0, none⟩)) (hb : Blk w g t cs) (hu : P.underlying ty = some d) (hd : (match d with | .struct _ | .array _ _ => true | _ => false) = true)
    (hi : (P.info? ty).map (·.size) = some cs.size) (hR : ∀ w', Stands w w' → Below B w w' → R (.returned (.tuple #[a.tmps.getD q undef, .agg cs])) w') : bodyPostM F n P fn R .ret a w := by
  refine run_results_frame a.defers w hM fun w' hs hk => ⟨.tuple #[a.tmps.getD q undef, .agg cs], ?_, hR w' hs (hs.below hk)⟩
  have hp' : a.tmps[p]?.getD undef = .pointer (some ⟨g, 0, none⟩) := by simpa using hp
  simp [results, h, hp', asAddr, run_loadVar_row w' g t ty cs (0, 0) d (hs.blk hb) hu hd hi]

/-- A frame's temporaries with some slots filled anew. -/
def fill : List Nat → (Nat → Value) → List Value → List Value
  | [], _, l => l
  | s :: S, u, l => fill S u (l.set s (u s))
/-- A loop: the relation speaks of one slot and of the world; the slots of S hold whatever; the marks may grow. -/
theorem wp_loop_fill {P : Program} {Q : Exit → Act → World → Prop} {c : Code} {l : List Value} {ds : List Deferred} {w : World} (B : Nat) (s0 : Nat) (S : List Nat) (R : Nat → Value → World → Prop) (n₀ : Nat)
    (hl : (fill S (fun s => l.getD s undef) l).set s0 (l.getD s0 undef) = l) (hM : Marks B ds w) (h0 : R n₀ (l.getD s0 undef) w)
    (round : ∀ (n : Nat) (v : Value) (u : Nat → Value) (ds : List Deferred) (w : World), Marks B ds w → R n v w → ∀ (J : Nat → Act → World → Prop) (K : Act → World → Prop),
      (∀ (k : Nat) (l' : List Value) (ds' : List Deferred) (w' : World), (fill S (fun s => l'.getD s undef) l).set s0 (l'.getD s0 undef) = l' → Marks B ds' w' → R k (l'.getD s0 undef) w' → J k ⟨l'.toArray, ds'⟩ w') → (∀ a' w', Handed J n a' w' → K a' w') → c.wp P (Exit.then K Q) ⟨((fill S u l).set s0 v).toArray, ds⟩ w) :
    (Code.loop c).wp P Q ⟨l.toArray, ds⟩ w := by
  refine wp_loop_ghost_k (fun n a w => ∃ v u ds, Marks B ds w ∧ R n v w ∧ a = ⟨((fill S u l).set s0 v).toArray, ds⟩) n₀ ⟨_, _, ds, hM, h0, by rw [hl]⟩ ?_
  rintro n a w ⟨v, u, ds, hm, hr, rfl⟩ J K hJ hK
  exact round n v u ds w hm hr J K (fun k l' ds' w' h1 h2 h3 => hJ k _ _ ⟨_, _, ds', h2, h3, by rw [h1]⟩) hK

/-- What lay below S stands, but for block g. -/
structure BelowBut (g S : Nat) (w w' : World) : Prop where
  os : w'.os = w.os
  tape : w'.tape = w.tape
  output : w'.output = w.output
  size : w.heap.size ≤ w'.heap.size
  block : ∀ k, k < S → k ≠ g → w'.heap[k]? = w.heap[k]?
theorem BelowBut.refl (g S : Nat) (w : World) : BelowBut g S w w := ⟨rfl, rfl, rfl, Nat.le_refl _, fun _ _ _ => rfl⟩
theorem BelowBut.trans {g S : Nat} {a b c : World} (h : BelowBut g S a b) (k : BelowBut g S b c) : BelowBut g S a c :=
  ⟨k.os.trans h.os, k.tape.trans h.tape, k.output.trans h.output, Nat.le_trans h.size k.size, fun i hi hg => (k.block i hi hg).trans (h.block i hi hg)⟩
theorem but_of {g S : Nat} {a b : World} (h : Below S a b) : BelowBut g S a b := ⟨h.os, h.tape, h.output, h.size, fun k hk _ => h.block k hk⟩
theorem BelowBut.below {g S B : Nat} {a b : World} (h : BelowBut g S a b) (hS : B ≤ S) (hg : B ≤ g) : Below B a b := ⟨h.os, h.tape, h.output, h.size, fun k hk => h.block k (by omega) (by omega)⟩
theorem BelowBut.set (g S : Nat) (w : World) (o : Nat) (u : Value) : BelowBut g S w (w.setCell ⟨g, o, none⟩ u) :=
  ⟨rfl, rfl, rfl, (KeepsWalks.setCell w ⟨g, o, none⟩ u).size, fun k _ hk => Below.heap_setCell w ⟨g, o, none⟩ u k hk⟩
theorem BelowBut.alloc {g S : Nat} {a b : World} (h : BelowBut g S a b) (hS : S ≤ b.heap.size) (o : Obj) : BelowBut g S a (b.alloc o) := h.trans (but_of ((Below.refl _ _).alloc hS o))
theorem BelowBut.grown {g S : Nat} {a b c : World} {row : Option Nat} (h : BelowBut g S a b) (hg : b.grownBy c row) (hS : S ≤ b.heap.size) (hr : ∀ r, row = some r → S ≤ r ∨ r = g) : BelowBut g S a c :=
  ⟨hg.os.trans h.os, hg.tape.trans h.tape, hg.output.trans h.output, Nat.le_trans h.size hg.size, fun k hk hne => (hg.block k (by omega) (fun e => by rcases hr k e.symm with h1 | h1 <;> omega)).trans (h.block k hk hne)⟩
theorem BelowBut.cell {g S : Nat} {a b : World} (h : BelowBut g S a b) {k o : Nat} (hk : k < S) (hg : k ≠ g) : b.cell? ⟨k, o, none⟩ = a.cell? ⟨k, o, none⟩ := World.cell?_of_block (a := ⟨k, o, none⟩) (h.block k hk hg)
theorem BelowBut.blk {g S : Nat} {a b : World} (h : BelowBut g S a b) {k : Nat} {t : TypeId} {cs : Array Value} (hb : Blk a k t cs) (hk : k < S) (hg : k ≠ g) : Blk b k t cs := (h.block k hk hg).trans hb
theorem BelowBut.kept {g S B : Nat} {a b : World} (h : BelowBut g S a b) (hS : B ≤ S) (hg : B ≤ g) : Kept a b B := fun k _ hk => h.cell (by omega) (by omega)
theorem butK_b {g S : Nat} {w : World} (hS : S ≤ w.heap.size) (W : World) (l : Nat) (o o' : Obj) (hl : w.heap.size ≤ l) (h : W.heap[l]? = some o) (_ : o.isCells = false) (_ : o.isWalk = false) : BelowBut g S W (W.putObj l o') :=
  (BelowBut.refl g S W).grown (grownBy_putObj' W l o') (by have := (Array.getElem?_eq_some_iff.1 h).1; omega) (fun r e => by cases e; exact .inl (by omega))
theorem BelowBut.marks {g S B : Nat} {ds : List Deferred} {w w' : World} (h : BelowBut g S w w') (hM : Marks B ds w) (hS : w.heap.size ≤ S) (hg : ∀ l, w.heap[g]? ≠ some (.deferred l)) : Marks B ds w' :=
  hM.kept fun D _ hD => (h.block D (by have := (Array.getElem?_eq_some_iff.1 hD).1; omega) (fun e => by subst e; exact hg _ hD)).trans hD
theorem keepsFrom_of_but {g S B : Nat} {w w' : World} (h : BelowBut g S w w') (hS : w.heap.size ≤ S) (hg : g < B) : KeepsFrom B w w' :=
  ⟨h.size, fun k o hB hk _ => (h.block k (by have := (Array.getElem?_eq_some_iff.1 hk).1; omega) (by omega)).trans hk⟩
/-- Whatever is cells stands, but for block g. -/
structure CellsBut (g : Nat) (w w' : World) : Prop where
  size : w.heap.size ≤ w'.heap.size
  same : ∀ (k : Nat) (o : Obj), k ≠ g → w.heap[k]? = some o → o.isCells = true → w'.heap[k]? = some o
theorem CellsBut.refl (g : Nat) (w : World) : CellsBut g w w := ⟨Nat.le_refl _, fun _ _ _ h _ => h⟩
theorem CellsBut.trans {g : Nat} {a b c : World} (h : CellsBut g a b) (k : CellsBut g b c) : CellsBut g a c := ⟨Nat.le_trans h.size k.size, fun i o hg hi ho => k.same i o hg (h.same i o hg hi ho) ho⟩
theorem BelowBut.cells {g S : Nat} {a b : World} (h : BelowBut g S a b) (hS : a.heap.size ≤ S) : CellsBut g a b :=
  ⟨h.size, fun k o hg hk _ => (h.block k (by have := (Array.getElem?_eq_some_iff.1 hk).1; omega) hg).trans hk⟩
theorem Below.cellsBut {g : Nat} {a b : World} (h : Below a.heap.size a b) : CellsBut g a b := BelowBut.cells (but_of h) (Nat.le_refl _)
theorem CellsBut.blk {g : Nat} {a b : World} (h : CellsBut g a b) {k : Nat} {t : TypeId} {cs : Array Value} (hb : Blk a k t cs) (hg : k ≠ g) : Blk b k t cs := h.same _ _ hg hb rfl
theorem CellsBut.cell {g : Nat} {a b : World} (h : CellsBut g a b) {k o : Nat} {u : Value} (hc : a.cell? ⟨k, o, none⟩ = some u) (hg : k ≠ g) : b.cell? ⟨k, o, none⟩ = some u := by
  cases ho : a.heap[k]? with
  | none => simp [World.cell?, ho] at hc
  | some ob =>
    cases hi : ob.isCells with
    | false => cases ob <;> first | (simp [World.cell?, ho] at hc; done) | (simp [Obj.isCells] at hi)
    | true => rw [World.cell?_of_block (a := ⟨k, o, none⟩) (w := a) (w' := b) ((h.same _ _ hg ho hi).trans ho.symm)]; exact hc
theorem cellsK_b {g : Nat} {w : World} (W : World) (l : Nat) (o o' : Obj) (_ : w.heap.size ≤ l) (h : W.heap[l]? = some o) (hc : o.isCells = false) (_ : o.isWalk = false) : CellsBut g W (W.putObj l o') :=
  ⟨by simp, fun k o2 _ hk ho => by
    by_cases e : k = l
    · subst e; rw [h] at hk; cases hk; rw [hc] at ho; cases ho
    · exact (World.putObj_heap_other e).trans hk⟩
/-- A loop over an iterator, of one variable that lies in a box of its own each round (slot p: what comes; slot q: the box); in no round. -/
theorem wp_range_boxed {P : Program} {α : Type} {g : Operand} {p q : Nat} {assign body : Code} {Q : Exit → Act → World → Prop} {l : List Value} {ds : List Deferred} {w : World} (t : TypeId) (g0 : Nat) {gf : Nat} {lb : Array Value}
    (hg : (⟨l.toArray, ds⟩ : Act).eval g = .func (.func gf) #[] lb) (eg : ∀ args w, (callFunc gf args).run P w = .ok (.enter gf args) w)
    {enc : α → Value} {cells : α → Array Value} {Sx Sp : List α → Prop} {N : Nat} (hseq : SeqStopsK Fence.wide 2 P gf lb (fun x => #[enc x]) (CellsBut g0) Sx Sp N w) (hg0 : g0 < w.heap.size)
    (I : List α → World → Prop) (hI : OwnFrom w.heap.size I) (h0 : I [] w)
    (hassign : ∀ (lp : Nat) (x : α) (W : World) (K : Act → World → Prop), K ⟨((l.set p (enc x)).set q (.pointer (some ⟨W.heap.size, 0, none⟩))).toArray, []⟩ (W.alloc (.cells (cells x) t)) →
      assign.wpIn (Fence.wide.inRound lp) 1 P (Exit.then K (fun _ _ _ => False)) ⟨(l.set p (enc x)).toArray, []⟩ W)
    (hIa : ∀ pre W o, w.heap.size ≤ W.heap.size → I pre W → I pre (W.alloc o))
    (hbody : ∀ (lp : Nat) (pre : List α) (x : α) (Bx : Nat) (W : World), w.heap.size ≤ Bx → w.heap.size ≤ W.heap.size → I pre W → Blk W Bx t (cells x) → pre.length < N →
      body.wpIn (Fence.wide.inRound lp) 1 P (fun e _ W' => e = .normal ∧ BelowBut g0 W.heap.size W W' ∧ I (pre ++ [x]) W') ⟨((l.set p (enc x)).set q (.pointer (some ⟨Bx, 0, none⟩))).toArray, []⟩ W)
    (hdone : ∀ (D : Nat) (xs : List α) (W : World), w.heap.size ≤ D → Sx xs → I xs W → W.heap[D]? = some (.deferred (some [])) → Q .normal ⟨l.toArray, { target := .collected D, args := #[] } :: ds⟩ W) :
    (Code.rangeFunc g #[p] assign body).wp P Q ⟨l.toArray, ds⟩ w := by
  have hz : ∀ x, ((#[p] : Array Nat).zip #[enc x]).foldl (fun (t : Array Value) (pv : Nat × Value) => t.setIfInBounds pv.1 pv.2) l.toArray = (l.set p (enc x)).toArray := fun x => by simp
  refine (wpIn_wide (n := 3)).1 (wpIn_rangeFunc_ownH rfl (by omega) hg trivial eg hseq (fun h k => h.trans k) (fun W l o o' h1 h2 h3 h4 => cellsK_b (w := w) W l o o' h1 h2 h3 h4) (Below.refl _ _) (fun _ => rfl)
    (fun pre W => I pre W ∧ w.heap.size ≤ W.heap.size) (fun _ _ _ => False) (fun s A B row hs hg' hr => ⟨hI s A B row hs.1 hg' hr, Nat.le_trans hs.2 hg'.size⟩) (fun _ _ _ _ _ hs _ _ => hs) ⟨h0, Nat.le_refl _⟩
    (fun x a' W => ∃ Bx, w.heap.size ≤ Bx ∧ Blk W Bx t (cells x) ∧ a' = ⟨((l.set p (enc x)).set q (.pointer (some ⟨Bx, 0, none⟩))).toArray, []⟩) ?_ ?_ ?_ ?_ ?_)
  · rintro x a' _ A B row ⟨Bx, h1, h2, h3⟩ hg' hr
    refine ⟨Bx, h1, ?_, h3⟩
    refine (hg'.block Bx h2.lt (fun e => ?_)).trans h2
    obtain ⟨_, o, ho, hc⟩ := hr Bx e.symm
    rw [show A.heap[Bx]? = _ from h2] at ho
    cases ho
    cases hc
  · intro lp pre x W K hi hK
    have hz' := hz x
    simp only at hz' ⊢
    rw [hz']
    refine hassign lp x W K ?_
    exact hK _ _ ((KeepsOthers.alloc _ _).from _) (Below.cellsBut ((Below.refl _ _).alloc (Nat.le_refl _) _)) ⟨hIa _ _ _ hi.2 hi.1, by simp; exact Nat.le_succ_of_le hi.2⟩ ⟨W.heap.size, hi.2, Blk.new _ _ _, rfl⟩
  · rintro lp pre x a' W hl _ hi ⟨Bx, h1, h2, rfl⟩ hlen
    refine wpIn_mono (hbody lp pre x Bx W h1 hi.2 hi.1 h2 hlen) ?_
    rintro e a2 W' ⟨rfl, hb, hi'⟩
    exact ⟨keepsFrom_of_but hb (Nat.le_refl _) hg0, hb.cells (Nat.le_refl _), hi', Nat.le_trans hi.2 hb.size⟩
  · rintro D xs W hD hS hi hK
    exact hdone D xs W hD hS hi.1 hK
  · rintro D c pre W hD _ hx
    exact hx.elim
end Go.Proofs.YtiknhfbkphoceaaGreatDoor
