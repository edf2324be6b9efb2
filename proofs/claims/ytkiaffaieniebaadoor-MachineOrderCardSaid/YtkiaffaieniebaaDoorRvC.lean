/-
  Several texts in one (RvA RvB RvC): what each proves stands at its theorems.
  Conditions: as the theorems say.
-/
import Derived.Test.YtkiaffaieniebaaDoorRuT
import Derived.Test.YtkiaffaieniebaaDoorRuY
namespace Go.Proofs.YtkiaffaieniebaaDoor
open Go.RowKit

/-- Running an image of three routines, in every later world. -/
theorem Run_thr {n1 n2 : ByteArray} {a b c : List Mac} {gv rv : Value} {W : World} (hn : Names3 n1 n2) (ha : Fine3 a) (hb : Fine3 b) (hc : Fine3 c)
    (hg : GlobsAt W W.heap.size gv kGlobs) (hr : RoutsAt W W.heap.size rv (thrR n1 n2 a b c)) (ht : Tab W) {xs : List Int} (hx : xs.length ≤ 30) {base : Nat} {iv : Value} {V : World} {n : Nat} (hle : n ≤ 900000)
    (hV : Below W.heap.size W V) (hi : V.ownsRow base 3 1 iv xs.length (intV xs)) :
    Calls Tryd.prog 14 #[.agg #[gv, rv], iv, .int .i64 (n : Int)] V fun e w' => ∃ ov, e = .returned (runV (runS [a, b, c] (beginS kGlobs xs) n).told ov (0, 0)) ∧
      w'.ownsRow V.heap.size 3 1 ov (runS [a, b, c] (beginS kGlobs xs) n).told.out.length (intV (runS [a, b, c] (beginS kGlobs xs) n).told.out) ∧ Below V.heap.size V w' := by
  obtain ⟨q1, q2⟩ := thr_run hn ha hb hc hx hle
  have hcall := Run_any gv rv iv kGlobs (thrR n1 n2 a b c) xs (n : Int) V ((hg.below hV (Nat.le_refl _)).more hV.size) ((hr.below hV (Nat.le_refl _)).more hV.size) (row_ints hi rfl) kGlobs_ok (thr_rok hn ha hb hc) (ht.own hV)
  rw [q1, q2] at hcall
  refine hcall.mono ?_
  rintro e w' ⟨ov, rfl, h1, h2⟩
  exact ⟨ov, rfl, h1, h2⟩
/-- The bytes of fine code. -/
theorem codeBytes3 {w : World} {v : Value} {ms : List Mac} {lo : Nat} (hv : OwnMacs w lo v ms) (hf : Fine3 ms) :
    Calls Tryd.prog 27 #[v] w fun e w' => ∃ A c, e = .returned (.slice A (codeL ms).length c) ∧ OwnB w' w.heap.size (.slice A (codeL ms).length c) (codeL ms) ∧ Below w.heap.size w w' := by
  obtain ⟨hl5, hw⟩ := writes_of_check hf.1 hf.2.1
  refine (CodeBytes_any v _ w hv.macs hw hl5).mono ?_
  rintro e w' ⟨v', rfl, hb, hbw⟩
  have hcl : codeL ms = bytesS ms := by unfold codeL; rw [if_pos hf.1]
  rw [← hcl] at hb
  obtain ⟨A, c, rfl, _⟩ := hb.bytes
  exact ⟨A, c, rfl, hb, hbw⟩

/-- All blocks of w2 stand but the two images'. -/
structure Fro (w2 : World) (g h : Nat) (W : World) : Prop where
  os : W.os = w2.os
  tape : W.tape = w2.tape
  output : W.output = w2.output
  size : w2.heap.size ≤ W.heap.size
  block : ∀ k, k < w2.heap.size → k ≠ g → k ≠ h → W.heap[k]? = w2.heap[k]?
section
variable {w1 w2 W W' : World} {g h B : Nat}
theorem Fro.refl (w : World) (g h : Nat) : Fro w g h w := ⟨rfl, rfl, rfl, Nat.le_refl _, fun _ _ _ _ => rfl⟩
theorem Fro.symm (f : Fro w2 g h W) : Fro w2 h g W := ⟨f.os, f.tape, f.output, f.size, fun k h1 h2 h3 => f.block k h1 h3 h2⟩
theorem Fro.below (f : Fro w2 g h W) (hb : Below B W W') (hB : w2.heap.size ≤ B) : Fro w2 g h W' :=
  ⟨hb.os.trans f.os, hb.tape.trans f.tape, hb.output.trans f.output, Nat.le_trans f.size hb.size, fun k h1 h2 h3 => (hb.block k (Nat.lt_of_lt_of_le h1 hB)).trans (f.block k h1 h2 h3)⟩
theorem Fro.set (f : Fro w2 g h W) (o : Nat) (u : Value) : Fro w2 g h (W.setCell ⟨g, o, none⟩ u) :=
  ⟨f.os, f.tape, f.output, by simpa using f.size, fun k h1 h2 h3 => (Below.heap_setCell _ _ _ _ h2).trans (f.block k h1 h2 h3)⟩
theorem Fro.toBelow (f : Fro w2 g h W) (hb : Below B w1 w2) (hg : B ≤ g) (hh : B ≤ h) (hB : B ≤ w2.heap.size) : Below B w1 W :=
  ⟨f.os.trans hb.os, f.tape.trans hb.tape, f.output.trans hb.output, Nat.le_trans hb.size f.size, fun k hk => (f.block k (by omega) (by omega) (by omega)).trans (hb.block k hk)⟩
theorem Fro.cell (f : Fro w2 g h W) {b o : Nat} (hb : b < w2.heap.size) (hg : b ≠ g) (hh : b ≠ h) : W.cell? ⟨b, o, none⟩ = w2.cell? ⟨b, o, none⟩ := World.cell?_of_block (a := ⟨b, o, none⟩) (f.block b hb hg hh)
theorem Fro.frozen (f : Fro w2 g h W) {b o : Nat} (hb : b < w2.heap.size) (hg : b ≠ g) (hh : b ≠ h) : W.frozen? ⟨b, o, none⟩ = w2.frozen? ⟨b, o, none⟩ := World.frozen?_of_block (a := ⟨b, o, none⟩) (f.block b hb hg hh)
/-- What had been made between two marks, neither image among it, stands. -/
theorem Fro.turn (f : Fro w2 g h W) {v : World} {lo : Nat} (hb : Below v.heap.size v w2) (hg : g < lo ∨ v.heap.size ≤ g) (hh : h < lo ∨ v.heap.size ≤ h) : Turn lo v W := fun b o x hl hc => by
  have hlt := World.block_lt_of_cell? v ⟨b, o, none⟩ hc
  have hlt : b < v.heap.size := hlt
  have hs := hb.size
  rw [f.cell (by omega) (by omega) (by omega)]
  exact (bcell hb hlt).trans hc
end
/-- Two images: the fields, the rows of routines. rv0: what lies in the first image. -/
structure Pair (w2 : World) (g h : Nat) (gv hv rv0 rv sv : Value) (rs ss : List Rout) (xs ys : List Value) (W : World) : Prop where
  bg : Blk W g 36 #[gv, rv0]
  bh : Blk W h 36 #[hv, sv]
  ne : g ≠ h
  rg : W.ownsRow w2.heap.size 56 2 rv rs.length xs
  rh : W.ownsRow w2.heap.size 56 2 sv ss.length ys
  ap : ∀ k, sv.ownBlock = some k → rv.ownBlock ≠ some k
  cg : RCells W w2.heap.size xs rs
  ch : RCells W w2.heap.size ys ss
  fro : Fro w2 g h W
section
variable {w2 W W' : World} {g h : Nat} {gv hv rv0 rv sv : Value} {rs ss : List Rout} {xs ys : List Value}
theorem Pair.symm (p : Pair w2 g h gv hv rv rv sv rs ss xs ys W) : Pair w2 h g hv gv sv sv rv ss rs ys xs W :=
  ⟨p.bh, p.bg, p.ne.symm, p.rh, p.rg, fun k h1 h2 => p.ap k h2 h1, p.ch, p.cg, p.fro.symm⟩
theorem Pair.below (p : Pair w2 g h gv hv rv0 rv sv rs ss xs ys W) (hb : Below W.heap.size W W') : Pair w2 g h gv hv rv0 rv sv rs ss xs ys W' :=
  ⟨p.bg.below hb p.bg.lt, p.bh.below hb p.bh.lt, p.ne, row_lt p.rg hb, row_lt p.rh hb, p.ap, p.cg.mono fun _ _ o => o.below hb rfl, p.ch.mono fun _ _ o => o.below hb rfl, p.fro.below hb p.fro.size⟩
theorem Pair.alloc (p : Pair w2 g h gv hv rv0 rv sv rs ss xs ys W) (o : Obj) : Pair w2 g h gv hv rv0 rv sv rs ss xs ys (W.alloc o) := p.below ((Below.refl _ _).alloc (Nat.le_refl _) _)
theorem Pair.app (p : Pair w2 g h gv hv rv0 rv sv rs ss xs ys W) {n : ByteArray} {cv v' : Value} {bs : List Int} (hc : OwnB W w2.heap.size cv bs)
    (hap : Appended W w2.heap.size 56 2 rv (rs.length + 1) (xs ++ [.string n, cv]) W.heap.size v' W') : Pair w2 g h gv hv rv0 v' sv (rs ++ [⟨n, bs⟩]) ss (xs ++ [.string n, cv]) ys W' := by
  refine ⟨hap.blk p.rg p.bg (by decide), hap.blk p.rg p.bh (by decide), p.ne, by rw [List.length_append]; exact hap.own, hap.row p.rh p.ap, ?_, ?_, ?_, p.fro.below hap.below (Nat.le_refl _)⟩
  · intro k hk hk'
    rcases hap.2.2.2 with e | e
    · rw [e] at hk'; exact p.ap k hk hk'
    · rw [e] at hk'
      have := (World.ownsRow.lt p.rh k hk).2
      simp only [Option.some.injEq] at hk'
      omega
  · exact (p.cg.snoc hc).mono fun _ _ ho => hap.row ho (own_apart ho p.rg (by decide))
  · exact p.ch.mono fun _ _ ho => hap.row ho (own_apart ho p.rg (by decide))
theorem Pair.set (p : Pair w2 g h gv hv rv0 rv sv rs ss xs ys W) (u : Value) : Pair w2 g h gv hv u rv sv rs ss xs ys (W.setCell ⟨g, 1, none⟩ u) :=
  ⟨p.bg.set_ 1 u, p.bh.far (p := ⟨g, 1, none⟩) p.ne.symm u, p.ne, row_far p.rg p.bg (by decide) u, row_far p.rh p.bg (by decide) u, p.ap, p.cg.mono fun _ _ ho => row_far ho p.bg (by decide) u, p.ch.mono fun _ _ ho => row_far ho p.bg (by decide) u, p.fro.set 1 u⟩
/-- A store into a block of instructions that the loop has made. -/
theorem Pair.far (p : Pair w2 g h gv hv rv0 rv sv rs ss xs ys W) {b o : Nat} {cs : Array Value} (hb : Blk W b 24 cs) (hlo : w2.heap.size ≤ b) (u : Value) : Pair w2 g h gv hv rv0 rv sv rs ss xs ys (W.setCell ⟨b, o, none⟩ u) :=
  ⟨p.bg.far (p := ⟨b, o, none⟩) (Blk.types p.bg hb (by decide)) u, p.bh.far (p := ⟨b, o, none⟩) (Blk.types p.bh hb (by decide)) u, p.ne, row_far p.rg hb (by decide) u, row_far p.rh hb (by decide) u, p.ap,
    p.cg.mono fun _ _ ho => row_far ho hb (by decide) u, p.ch.mono fun _ _ ho => row_far ho hb (by decide) u, p.fro.below ((Below.refl _ _).setCell (B := w2.heap.size) hlo u) (Nat.le_refl _)⟩
/-- The rows of both images read as their routines. -/
theorem routs_of {B : Nat} (h3 : W.ownsRow B 56 2 rv rs.length xs) (h4 : RCells W B xs rs) : RoutsAt W W.heap.size rv rs := by
  have hc := fun {b : Nat} (hg : rv.ownBlock = some b) => World.ownsRow.cells h3 hg
  rcases h3.2 with ⟨rfl, hn⟩ | ⟨b, cap, cur, rfl, hb, hgg, hnc, hcm, _, _⟩
  · exact ⟨none, 0, by rw [hn], by omega, by omega, fun h => by omega⟩
  · refine ⟨some ⟨b, 0, none⟩, cap, rfl, hnc, by unfold maxLen at hcm; omega, fun _ => ⟨b, 0, rfl, ?_, fun k r hk => ?_⟩⟩
    · rcases Nat.lt_or_ge b W.heap.size with h | h
      · exact h
      · rw [Array.getElem?_eq_none h] at hgg; cases hgg
    · have hcell : ∀ (j : Nat) (u : Value), xs[j]? = some u → W.cell? ⟨b, j, none⟩ = some u := fun j u hj => by
        have := hc (b := b) rfl j u hj
        rw [← this]
        unfold Addr.add
        split <;> simp_all
      obtain ⟨cv, e1, e2, e3⟩ := h4.get hk
      rw [Nat.zero_add]
      exact ⟨cv, hcell _ _ e1, hcell _ _ e2, e3.turn (Turn.refl _ _)⟩
end
end Go.Proofs.YtkiaffaieniebaaDoor
namespace Go.Proofs.YtkiaffaieniebaaDoor
open Go.RowKit

/-- What the statement finds: two images, the names, the name's place, the code. -/
structure AppP where
  (w2 : World) (g h : Nat) (gv hv rv sv : Value) (rs ss : List Rout) (xs ys : List Value) (st : Array Value) (i : Nat) (nm : ByteArray) (code : List Int) (w0 : World)
def AppP.mid (p : AppP) (W : World) : Prop := Pair p.w2 p.g p.h p.gv p.hv p.rv p.rv p.sv p.rs p.ss p.xs p.ys W
def AppP.late (p : AppP) (rv0 rv : Value) (W : World) : Prop := ∃ zs, Pair p.w2 p.g p.h p.gv p.hv rv0 rv p.sv (p.rs ++ [⟨p.nm, p.code⟩]) p.ss zs p.ys W
def slots7 : List Nat := [2, 4, 7, 8, 9, 10, 12]
def AppRun (p : AppP) (pv : Nat → Option Value) (σ : Nat → Option Value) (W : World) : Prop :=
  (∀ j v, pv j = some v → ∀ u, σ j = some u → u = v) ∧ (∀ v l E, OwnMacs p.w0 E v l → OwnMacs W E v l) ∧ p.w0.heap.size ≤ W.heap.size ∧
  (σ 10 = none → p.mid W ∧ ∃ H H2 cv,
    (∀ u, σ 2 = some u → u = .slice (some ⟨H, 0, none⟩) 3 3 ∧ Blk W H 9 p.st) ∧
    (∀ u, σ 4 = some u → u = .pointer (some ⟨H, p.i, none⟩) ∧ Blk W H 9 p.st) ∧
    (∀ u, σ 7 = some u → u = cv ∧ OwnB W p.w2.heap.size cv p.code ∧ ∃ A c, cv = .slice A p.code.length c) ∧
    (∀ u, σ 8 = some u → u = .agg #[.string p.nm, cv] ∧ OwnB W p.w2.heap.size cv p.code ∧ ∃ A c, cv = .slice A p.code.length c) ∧
    (∀ u, σ 9 = some u → u = .slice (some ⟨H2, 0, none⟩) 1 1 ∧ Blk W H2 56 #[.string p.nm, cv] ∧ OwnB W p.w2.heap.size cv p.code ∧ ∃ A c, cv = .slice A p.code.length c)) ∧
  (∀ u, σ 10 = some u → ∃ A c, u = .slice A (p.rs.length + 1) c ∧ (σ 12 = none → p.late p.rv u W) ∧ (∀ t, σ 12 = some t → p.late u u W))
section
variable {p : AppP} {pv σ : Nat → Option Value} {W W' : World}
theorem AppRun.start (hm : p.mid W) (ho : ∀ v l E, OwnMacs p.w0 E v l → OwnMacs W E v l) (hz : p.w0.heap.size ≤ W.heap.size) : AppRun p pv (fun _ => none) W :=
  ⟨by simp, ho, hz, fun _ => ⟨hm, 0, 0, undef, by simp, by simp, by simp, by simp, by simp⟩, by simp⟩
theorem upd_keep (hd : ∀ j ∈ slots7, pv j = none) {k : Nat} (hk : k ∈ slots7) (u0 : Value) (h : ∀ j v, pv j = some v → ∀ u, σ j = some u → u = v) : ∀ j v, pv j = some v → ∀ u, upd σ k u0 j = some u → u = v := by
  intro j v hj u hu
  rw [upd_ne (fun e => by subst e; rw [hd _ hk] at hj; cases hj)] at hu
  exact h j v hj u hu
theorem AppRun.val (h : AppRun p pv σ W) {j : Nat} {u v : Value} (hu : σ j = some u) (hv : pv j = some v) : u = v := h.1 j v hv u hu
theorem AppRun.known (h : AppRun p pv σ W) {k : Nat} {v : Value} (hk : pv k = some v) (hd : ∀ j ∈ slots7, pv j = none) : AppRun p pv (upd σ k v) W := by
  have ne : ∀ j ∈ slots7, upd σ k v j = σ j := fun j hj => upd_ne fun e => by rw [← e, hd j hj] at hk; cases hk
  simp only [slots7, List.forall_mem_cons, List.not_mem_nil, false_implies, implies_true, and_true] at ne
  obtain ⟨n2, n4, n7, n8, n9, n10, n12⟩ := ne
  obtain ⟨h1, h2, h3, h4, h5⟩ := h
  unfold AppRun
  rw [n2, n4, n7, n8, n9, n10, n12]
  refine ⟨fun j v' hj u hu => ?_, h2, h3, h4, h5⟩
  by_cases e : j = k
  · subst e
    rw [upd_same] at hu
    rw [hk] at hj
    cases hj
    cases hu
    rfl
  · rw [upd_ne e] at hu
    exact h1 j v' hj u hu
theorem AppRun.pair (h : AppRun p pv σ W) (hs : σ 10 = none) : p.mid W := (h.2.2.2.1 hs).1
theorem AppRun.strs (h : AppRun p pv σ W) (hd : ∀ j ∈ slots7, pv j = none) (hs : σ 10 = none) (h4 : σ 4 = none) : AppRun p pv (upd σ 2 (.slice (some ⟨W.heap.size, 0, none⟩) 3 3)) (W.alloc (.cells p.st 9)) := by
  obtain ⟨h1, h2, h3, h5, _⟩ := h
  obtain ⟨hm, H, H2, cv, q2, q4, q7, q8, q9⟩ := h5 hs
  have hb : Below W.heap.size W (W.alloc (.cells p.st 9)) := (Below.refl _ _).alloc (Nat.le_refl _) _
  refine ⟨upd_keep hd (by simp [slots7]) _ h1, fun v l E ho => (h2 v l E ho).below hb rfl, Nat.le_trans h3 hb.size, fun _ => ⟨hm.alloc _, W.heap.size, H2, cv, ?_, ?_, ?_, ?_, ?_⟩, ?_⟩
  · intro u hu; rw [upd_same] at hu; cases hu; exact ⟨rfl, Blk.new _ _ _⟩
  · intro u hu; rw [upd_ne (by decide), h4] at hu; cases hu
  · intro u hu; rw [upd_ne (by decide)] at hu; obtain ⟨a, b, c⟩ := q7 u hu; exact ⟨a, b.below hb rfl, c⟩
  · intro u hu; rw [upd_ne (by decide)] at hu; obtain ⟨a, b, c⟩ := q8 u hu; exact ⟨a, b.below hb rfl, c⟩
  · intro u hu; rw [upd_ne (by decide)] at hu; obtain ⟨a, b, c, d⟩ := q9 u hu; exact ⟨a, b.below hb b.lt, c.below hb rfl, d⟩
  · intro u hu; rw [upd_ne (by decide), hs] at hu; cases hu
theorem AppRun.index (h : AppRun p pv σ W) (hd : ∀ j ∈ slots7, pv j = none) (hs : σ 10 = none) {u : Value} (hu2 : σ 2 = some u) : ∃ H, u = .slice (some ⟨H, 0, none⟩) 3 3 ∧ AppRun p pv (upd σ 4 (.pointer (some ⟨H, p.i, none⟩))) W := by
  obtain ⟨h1, h2, h3, h5, _⟩ := h
  obtain ⟨hm, H, H2, cv, q2, q4, q7, q8, q9⟩ := h5 hs
  obtain ⟨rfl, hk⟩ := q2 u hu2
  refine ⟨H, rfl, upd_keep hd (by simp [slots7]) _ h1, h2, h3, fun _ => ⟨hm, H, H2, cv, ?_, ?_, ?_, ?_, ?_⟩, ?_⟩
  · intro u hu; rw [upd_ne (by decide)] at hu; exact q2 u hu
  · intro u hu; rw [upd_same] at hu; cases hu; exact ⟨rfl, hk⟩
  · intro u hu; rw [upd_ne (by decide)] at hu; exact q7 u hu
  · intro u hu; rw [upd_ne (by decide)] at hu; exact q8 u hu
  · intro u hu; rw [upd_ne (by decide)] at hu; exact q9 u hu
  · intro u hu; rw [upd_ne (by decide), hs] at hu; cases hu
theorem AppRun.isName (h : AppRun p pv σ W) (hs : σ 10 = none) {u : Value} (hu : σ 4 = some u) : ∃ H, u = .pointer (some ⟨H, p.i, none⟩) ∧ Blk W H 9 p.st := by
  obtain ⟨h1, h2, h3, h5, _⟩ := h
  obtain ⟨hm, H, H2, cv, q2, q4, q7, q8, q9⟩ := h5 hs
  exact ⟨H, q4 u hu⟩
theorem AppRun.code (h : AppRun p pv σ W) (hd : ∀ j ∈ slots7, pv j = none) (hs : σ 10 = none) (h8 : σ 8 = none) (h9 : σ 9 = none) {A : Option Addr} {c : Nat} (hb : Below W.heap.size W W') (hc : OwnB W' W.heap.size (.slice A p.code.length c) p.code) :
    AppRun p pv (upd σ 7 (.slice A p.code.length c)) W' := by
  obtain ⟨h1, h2, h3, h5, _⟩ := h
  obtain ⟨hm, H, H2, cv, q2, q4, q7, q8, q9⟩ := h5 hs
  refine ⟨upd_keep hd (by simp [slots7]) _ h1, fun v l E ho => (h2 v l E ho).below hb rfl, Nat.le_trans h3 hb.size, fun _ => ⟨hm.below hb, H, H2, .slice A p.code.length c, ?_, ?_, ?_, ?_, ?_⟩, ?_⟩
  · intro u hu; rw [upd_ne (by decide)] at hu; obtain ⟨a, b⟩ := q2 u hu; exact ⟨a, b.below hb b.lt⟩
  · intro u hu; rw [upd_ne (by decide)] at hu; obtain ⟨a, b⟩ := q4 u hu; exact ⟨a, b.below hb b.lt⟩
  · intro u hu; rw [upd_same] at hu; cases hu; exact ⟨rfl, hc.more hm.fro.size, A, c, rfl⟩
  · intro u hu; rw [upd_ne (by decide), h8] at hu; cases hu
  · intro u hu; rw [upd_ne (by decide), h9] at hu; cases hu
  · intro u hu; rw [upd_ne (by decide), hs] at hu; cases hu
theorem AppRun.build (h : AppRun p pv σ W) (hd : ∀ j ∈ slots7, pv j = none) (hs : σ 10 = none) {u : Value} (hu7 : σ 7 = some u) : (∃ A c, u = .slice A p.code.length c) ∧ AppRun p pv (upd σ 8 (.agg #[.string p.nm, u])) W := by
  obtain ⟨h1, h2, h3, h5, _⟩ := h
  obtain ⟨hm, H, H2, cv, q2, q4, q7, q8, q9⟩ := h5 hs
  obtain ⟨rfl, hc, hcv⟩ := q7 u hu7
  refine ⟨hcv, upd_keep hd (by simp [slots7]) _ h1, h2, h3, fun _ => ⟨hm, H, H2, u, ?_, ?_, ?_, ?_, ?_⟩, ?_⟩
  · intro u hu; rw [upd_ne (by decide)] at hu; exact q2 u hu
  · intro u hu; rw [upd_ne (by decide)] at hu; exact q4 u hu
  · intro u hu; rw [upd_ne (by decide)] at hu; exact q7 u hu
  · intro u hu; rw [upd_same] at hu; cases hu; exact ⟨rfl, hc, hcv⟩
  · intro u hu; rw [upd_ne (by decide)] at hu; exact q9 u hu
  · intro u hu; rw [upd_ne (by decide), hs] at hu; cases hu
theorem AppRun.row (h : AppRun p pv σ W) (hd : ∀ j ∈ slots7, pv j = none) (hs : σ 10 = none) {u : Value} (hu8 : σ 8 = some u) :
    ∃ A c, u = .agg #[.string p.nm, .slice A p.code.length c] ∧ AppRun p pv (upd σ 9 (.slice (some ⟨W.heap.size, 0, none⟩) 1 1)) (W.alloc (.cells #[.string p.nm, .slice A p.code.length c] 56)) := by
  obtain ⟨h1, h2, h3, h5, _⟩ := h
  obtain ⟨hm, H, H2, cv, q2, q4, q7, q8, q9⟩ := h5 hs
  obtain ⟨rfl, hc, A, c, rfl⟩ := q8 u hu8
  have hb : Below W.heap.size W (W.alloc (.cells #[.string p.nm, .slice A p.code.length c] 56)) := (Below.refl _ _).alloc (Nat.le_refl _) _
  refine ⟨A, c, rfl, upd_keep hd (by simp [slots7]) _ h1, fun v l E ho => (h2 v l E ho).below hb rfl, Nat.le_trans h3 hb.size, fun _ => ⟨hm.alloc _, H, W.heap.size, .slice A p.code.length c, ?_, ?_, ?_, ?_, ?_⟩, ?_⟩
  · intro u hu; rw [upd_ne (by decide)] at hu; obtain ⟨a, b⟩ := q2 u hu; exact ⟨a, b.below hb b.lt⟩
  · intro u hu; rw [upd_ne (by decide)] at hu; obtain ⟨a, b⟩ := q4 u hu; exact ⟨a, b.below hb b.lt⟩
  · intro u hu; rw [upd_ne (by decide)] at hu; obtain ⟨a, b, c⟩ := q7 u hu; exact ⟨a, b.below hb rfl, c⟩
  · intro u hu; rw [upd_ne (by decide)] at hu; obtain ⟨a, b, c⟩ := q8 u hu; exact ⟨a, b.below hb rfl, c⟩
  · intro u hu; rw [upd_same] at hu; cases hu; exact ⟨rfl, Blk.new _ _ _, hc.below hb rfl, A, c, rfl⟩
  · intro u hu; rw [upd_ne (by decide), hs] at hu; cases hu
theorem AppRun.isRow (h : AppRun p pv σ W) (hs : σ 10 = none) {u : Value} (hu9 : σ 9 = some u) : ∃ H A c, u = .slice (some ⟨H, 0, none⟩) 1 1 ∧ Blk W H 56 #[.string p.nm, .slice A p.code.length c] ∧ OwnB W p.w2.heap.size (.slice A p.code.length c) p.code := by
  obtain ⟨h1, h2, h3, h5, _⟩ := h
  obtain ⟨hm, H, H2, cv, q2, q4, q7, q8, q9⟩ := h5 hs
  obtain ⟨rfl, hk, hc, A, c, rfl⟩ := q9 u hu9
  exact ⟨H2, A, c, rfl, hk, hc⟩
theorem AppRun.app (h : AppRun p pv σ W) (hd : ∀ j ∈ slots7, pv j = none) (hs : σ 10 = none) (h12 : σ 12 = none) {A A' : Option Addr} {c c' : Nat} (hc : OwnB W p.w2.heap.size (.slice A p.code.length c) p.code)
    (hap : Appended W p.w2.heap.size 56 2 p.rv (p.rs.length + 1) (p.xs ++ [.string p.nm, .slice A p.code.length c]) W.heap.size (.slice A' (p.rs.length + 1) c') W') : AppRun p pv (upd σ 10 (.slice A' (p.rs.length + 1) c')) W' := by
  obtain ⟨h1, h2, h3, h5, _⟩ := h
  obtain ⟨hm, H, H2, cv, q2, q4, q7, q8, q9⟩ := h5 hs
  refine ⟨upd_keep hd (by simp [slots7]) _ h1, fun v l E ho => hap.row (h2 v l E ho) (own_apart (h2 v l E ho) hm.rg (by decide)), Nat.le_trans h3 hap.below.size, ?_, ?_⟩
  · intro hn; rw [upd_same] at hn; cases hn
  · intro u hu
    rw [upd_same] at hu
    cases hu
    refine ⟨A', c', rfl, fun _ => ⟨_, Pair.app hm hc hap⟩, fun t ht => ?_⟩
    rw [upd_ne (by decide), h12] at ht
    cases ht
theorem AppRun.isApp (h : AppRun p pv σ W) (h12 : σ 12 = none) {u : Value} (hu : σ 10 = some u) : ∃ A N c, u = .slice A N c ∧ p.late p.rv u W := by
  obtain ⟨A, c, e, h1, _⟩ := h.2.2.2.2 u hu
  exact ⟨A, _, c, e, h1 h12⟩
theorem AppRun.store (h : AppRun p pv σ W) (hd : ∀ j ∈ slots7, pv j = none) (h12 : σ 12 = none) {u : Value} (hu : σ 10 = some u) : AppRun p pv (upd σ 12 undef) (W.setCell ⟨p.g, 1, none⟩ u) := by
  obtain ⟨h1, h2, h3, h5, h6⟩ := h
  obtain ⟨A, c, e, hl, _⟩ := h6 u hu
  obtain ⟨zs, hp⟩ := hl h12
  refine ⟨upd_keep hd (by simp [slots7]) _ h1, fun v l E ho => row_far (h2 v l E ho) hp.bg (by decide) u, by simpa using h3, ?_, ?_⟩
  · intro hn; rw [upd_ne (by decide), hu] at hn; cases hn
  · intro u' hu'
    rw [upd_ne (by decide), hu] at hu'
    cases hu'
    refine ⟨A, c, e, fun hn => ?_, fun _ _ => ⟨zs, hp.set u⟩⟩
    rw [upd_same] at hn
    cases hn
theorem AppRun.done (h : AppRun p pv σ W) {u t : Value} (hu : σ 10 = some u) (ht : σ 12 = some t) : ∃ A c, p.late (.slice A (p.rs.length + 1) c) (.slice A (p.rs.length + 1) c) W ∧ (∀ v l E, OwnMacs p.w0 E v l → OwnMacs W E v l) ∧ p.w0.heap.size ≤ W.heap.size := by
  obtain ⟨A, c, rfl, _, h2⟩ := h.2.2.2.2 u hu
  exact ⟨A, c, h2 t ht, h.2.1, h.2.2.1⟩
def pv6 (ad rv : Value) (i : Value) (nm lv : Value) : Nat → Option Value
  | 0 => some ad
  | 1 => some rv
  | 3 => some i
  | 5 => some nm
  | 6 => some lv
  | 11 => some ad
  | _ => none
theorem pv6_no (ad rv i nm lv : Value) : ∀ j ∈ slots7, pv6 ad rv i nm lv j = none := by
  intro j hj
  simp only [slots7, List.mem_cons, List.not_mem_nil, or_false] at hj
  rcases hj with rfl | rfl | rfl | rfl | rfl | rfl | rfl <;> rfl
end
end Go.Proofs.YtkiaffaieniebaaDoor
namespace Go.Proofs.YtkiaffaieniebaaDoor
open Go.RowKit

theorem cells_set : ∀ (ms : List Mac) (j : Nat) (m : Mac) (v : Int), ms[j]? = some m → (cellsS ms).set (j * 5 + 4) (.int .i64 v) = cellsS (ms.set j { m with n := v })
  | [], j, m, v, h => by simp at h
  | m0 :: ms, 0, m, v, h => by
    simp only [List.getElem?_cons_zero, Option.some.injEq] at h
    subst h
    simp [cellsS, Mac.cells]
  | m0 :: ms, j + 1, m, v, h => by
    have ih := cells_set ms j m v (by simpa using h)
    rw [List.set_cons_succ]
    show (m0.cells ++ cellsS ms).set _ _ = m0.cells ++ cellsS _
    rw [List.set_append_right _ _ (by simp [Mac.cells]; omega), ← ih]
    congr 2
    simp [Mac.cells]
    omega
/-- The first j instructions renumbered. -/
def mapTo (ms : List Mac) (j : Nat) : List Mac := (ms.take j).map swM ++ ms.drop j
theorem mapTo_zero (ms : List Mac) : mapTo ms 0 = ms := by simp [mapTo]
theorem mapTo_end (ms : List Mac) : mapTo ms ms.length = ms.map swM := by simp [mapTo]
theorem mapTo_len (ms : List Mac) (j : Nat) : (mapTo ms j).length = ms.length := by
  simp only [mapTo, List.length_append, List.length_map, List.length_take, List.length_drop]
  omega
theorem mapTo_at {ms : List Mac} {j : Nat} {m : Mac} (h : ms[j]? = some m) : (mapTo ms j)[j]? = some m := by
  have hj := (List.getElem?_eq_some_iff.1 h).1
  unfold mapTo
  rw [List.getElem?_append_right (by simp; omega)]
  simp only [List.length_map, List.length_take, List.getElem?_drop]
  rw [show j + (j - min j ms.length) = j by omega]
  exact h
theorem mapTo_next {ms : List Mac} {j : Nat} {m : Mac} (h : ms[j]? = some m) : mapTo ms (j + 1) = (mapTo ms j).set j (swM m) := by
  have hj := (List.getElem?_eq_some_iff.1 h).1
  have hd : ms.drop j = m :: ms.drop (j + 1) := by
    rw [List.drop_eq_getElem_cons hj]
    congr 1
    rw [List.getElem?_eq_getElem hj] at h
    exact Option.some.inj h
  unfold mapTo
  rw [List.take_add_one, h, hd, List.set_append_right _ _ (by simp; omega)]
  simp [List.length_take, Nat.min_eq_left (Nat.le_of_lt hj)]
theorem mapTo_same {ms : List Mac} {j : Nat} {m : Mac} (h : ms[j]? = some m) (h44 : m.op ≠ 44) : mapTo ms (j + 1) = mapTo ms j := by
  rw [mapTo_next h, show swM m = m by unfold swM; rw [if_neg h44]]
  have h2 := mapTo_at h
  have hj := (List.getElem?_eq_some_iff.1 h2).1
  rw [List.getElem?_eq_getElem hj] at h2
  rw [← Option.some.inj h2, List.set_getElem_self]
theorem codeOf_call {l : List Int} {n : Nat} (hn : n ≤ 1000) {m : Mac} (hm : m ∈ codeOf l n 3) (h44 : m.op = 44) : 0 ≤ m.n ∧ m.n < 3 := by
  have := codeOf_ok l n 3 (by omega) (by omega)
  obtain ⟨j, hj⟩ := List.mem_iff_getElem?.1 hm
  rcases codeOf_get l n 3 j m hj with ⟨a, b, c, _, rfl, _, _, _⟩ | ⟨_, rfl⟩
  · unfold macOf at h44 ⊢
    simp only at h44 ⊢
    unfold numOf
    rw [h44, if_pos (show hasS (fldS 44) 114 = true by decide +kernel)]
    omega
  · exact absurd h44 (by decide)
theorem sw_num {n : Int} (h0 : 0 ≤ n) (h3 : n < 3) : (3 - n).tmod 3 = ((swN n.toNat : Nat) : Int) := by
  obtain ⟨k, rfl⟩ := Int.eq_ofNat_of_zero_le h0
  have : k < 3 := by omega
  match k, this with
  | 0, _ => rfl
  | 1, _ => rfl
  | 2, _ => rfl
  | k + 3, h => omega
theorem OwnMacs.call {w : World} {E b c j : Nat} {n : Nat} {ms : List Mac} {m : Mac} (h : OwnMacs w E (.slice (some ⟨b, 0, none⟩) n c) (mapTo ms j)) (hn : ms.length = n) (hm : ms[j]? = some m) (h44 : m.op = 44) :
    OwnMacs (w.setCell ⟨b, j * 5 + 4, none⟩ (.int .i64 ((swN m.n.toNat : Nat) : Int))) E (.slice (some ⟨b, 0, none⟩) n c) (mapTo ms (j + 1)) := by
  subst hn
  unfold OwnMacs at h ⊢
  have h1 := (World.ownsRow.stored (by rw [mapTo_len] at h; exact h) (j * 5 + 4) (.int .i64 ((swN m.n.toNat : Nat) : Int))).1
  rw [mapTo_len]
  rw [mapTo_next hm, show swM m = { m with n := ((swN m.n.toNat : Nat) : Int) } by unfold swM; rw [if_pos h44], ← cells_set _ _ _ _ (mapTo_at hm)]
  exact h1
theorem OwnMacs.cellsAt {w : World} {E b c j n : Nat} {ms : List Mac} {m : Mac} (h : OwnMacs w E (.slice (some ⟨b, 0, none⟩) n c) (mapTo ms j)) (hm : ms[j]? = some m) :
    w.cell? ⟨b, j * 5, none⟩ = some (.int .i64 m.op) ∧ w.cell? ⟨b, j * 5 + 4, none⟩ = some (.int .i64 m.n) ∧ (∃ cs, Blk w b 24 cs) ∧ E ≤ b := by
  have hj := (List.getElem?_eq_some_iff.1 (mapTo_at hm)).1
  unfold OwnMacs at h
  have hcell := fun k (hk : k < 5) => (World.ownsRow.cells h (g := b) rfl (j * 5 + k))
  have hat := fun k (hk : k < 5) => cellsS_at (mapTo ms j) j m (mapTo_at hm) k hk
  have add : ∀ k, (⟨b, 0, none⟩ : Addr).add k = ⟨b, k, none⟩ := fun k => by unfold Addr.add; split <;> simp_all
  refine ⟨?_, ?_, ?_, ?_⟩
  · have := hcell 0 (by omega) _ ((hat 0 (by omega)).trans rfl)
    rw [add] at this
    exact this
  · have := hcell 4 (by omega) _ ((hat 4 (by omega)).trans rfl)
    rw [add] at this
    exact this
  · rcases h.2 with ⟨e, _⟩ | ⟨g, cap, cur, e, _, hh, _⟩
    · cases e
    · cases e; exact ⟨cur, hh⟩
  · exact (World.ownsRow.lt h b rfl).1
/-- Three things by their number. -/
def val3 {α : Type} (x0 x1 x2 : α) : Nat → α
  | 0 => x0
  | 1 => x1
  | _ => x2
theorem val3_sw {α : Type} (x0 x1 x2 : α) {k : Nat} (hk : k < 3) : val3 x0 x1 x2 (swN k) = val3 x0 x2 x1 k := by
  match k, hk with
  | 0, _ => rfl
  | 1, _ => rfl
  | 2, _ => rfl
  | k + 3, h => omega
theorem swN_lt {k : Nat} (hk : k < 3) : swN k < 3 := by unfold swN; split <;> first | omega | (split <;> omega)
theorem val3_all {α : Type} {x0 x1 x2 : α} {p : α → Prop} (h0 : p x0) (h1 : p x1) (h2 : p x2) (k : Nat) : p (val3 x0 x1 x2 k) := by
  match k with
  | 0 => exact h0
  | 1 => exact h1
  | k + 2 => exact h2
theorem thr_at (n1 n2 : ByteArray) (a b c : List Mac) {k : Nat} (hk : k < 3) : (thrR n1 n2 a b c).take (k + 1) = (thrR n1 n2 a b c).take k ++ [⟨val3 mainB n1 n2 k, codeL (val3 a b c k)⟩] := by
  match k, hk with
  | 0, _ => rfl
  | 1, _ => rfl
  | 2, _ => rfl
  | k + 3, h => omega
theorem thr_len (n1 n2 : ByteArray) (a b c : List Mac) {k : Nat} (hk : k ≤ 3) : ((thrR n1 n2 a b c).take k).length = k := by
  rw [List.length_take]
  show min k 3 = k
  omega
theorem map_val3 (a b c : List Mac) (k : Nat) : val3 (a.map swM) (b.map swM) (c.map swM) k = (val3 a b c k).map swM := by
  match k with
  | 0 => rfl
  | 1 => rfl
  | k + 2 => rfl
/-- What an append comes to. -/
theorem upon_app {P : Program} {w w' : World} {o : Oper} {ev : Operand → Value} {R : Value → World → Prop} (s x : Operand) (t tn : TypeId) (ho : o.op = .call { callee := .builtin .append, args := #[s, x], argTypes := #[t, tn] })
    {v y v' : Value} (hs : ev s = v) (hx : ev x = y) (hr : (Builtin.append_ #[t, tn] o.type #[v, y]).run P w = .ok v' w') (h : R v' w') : uponR P R ((execOp ev o).run P w) := by
  unfold execOp
  simp only [ho, resolve, invoke, builtin, Sem.run_bind, Sem.run_pure, Result.andThen_ok, List.map_toArray, List.map_cons, List.map_nil, hs, hx, hr]
  exact h
end Go.Proofs.YtkiaffaieniebaaDoor
