/-
  The laws' changed: a unit in which two registers of a function have changed their names.
  Conditions: the unit's numbers are Go's.
-/
import Derived.Test.YtgnkkgbjcodihaaDoorSwC
import Derived.Deep.AppendLies
namespace Go.Proofs.YtgnkkgbjcodihaaDoor
open Go.RowKit

theorem infoV : (Tryd.prog.info? 40).map (fun i => (i.zero, i.size, i.bytes)) = some (some (.agg #[.bool false, .int .i64 0]), 2, 16) := by kernel_rfl
theorem infoX : (Tryd.prog.info? 47).map (fun i => (i.zero, i.size, i.bytes)) = some (some (.agg #[.int .i64 0, .int .i64 0, .bool false, .int .i64 0, .bool false, .int .i64 0, .int .i64 0, .slice none 0 0]), 8, 80) := by kernel_rfl
theorem infoK : (Tryd.prog.info? 44).map (fun i => (i.zero, i.size, i.bytes)) = some (some (.agg #[.slice none 0 0, .slice none 0 0, .int .i64 0, .bool false, .int .i64 0, .slice none 0 0]), 6, 96) := by kernel_rfl
theorem infoFn : (Tryd.prog.info? 36).map (fun i => (i.zero, i.size, i.bytes)) = some (some (.agg #[.string ⟨#[]⟩, .int .i64 0, .int .i64 0, .slice none 0 0]), 4, 56) := by kernel_rfl
theorem le_sum_mem : ∀ (l : List Nat) (x : Nat), x ∈ l → x ≤ l.sum
  | [], _, h => by cases h
  | y :: l, x, h => by
    rw [List.sum_cons]
    rcases List.mem_cons.1 h with rfl | h
    · omega
    · have := le_sum_mem l x h
      omega
theorem addr_add (b o j : Nat) : (⟨b, o, none⟩ : Addr).add j = ⟨b, o + j, none⟩ := by
  unfold Addr.add
  split
  · simp_all
  · simp
/-- What changed keeps. -/
structure ChgNow (w wr : World) (gR gF : Nat) (gv fv : Value) (fc : Array Value) : Prop where
  below : Below w.heap.size w wr
  unit : Blk wr w.heap.size 25 #[gv, fv]
  res : Blk wr gR 25 #[.slice none 0 0, .slice none 0 0]
  fn : Blk wr gF 36 fc
theorem ChgNow.next {w wr w' : World} {gR gF : Nat} {gv fv : Value} {fc : Array Value} (h : ChgNow w wr gR gF gv fv fc) (hb : Below wr.heap.size wr w') : ChgNow w w' gR gF gv fv fc :=
  ⟨h.below.trans (hb.mono h.below.size), h.unit.below hb h.unit.lt, h.res.below hb h.res.lt, h.fn.below hb h.fn.lt⟩
theorem ChgNow.grow {w wr w' : World} {gR gF base m n H : Nat} {gv fv u v' : Value} {fc : Array Value} {e : TypeId} {size : Nat} {zs xs : List Value} (h : ChgNow w wr gR gF gv fv fc) (hu : wr.ownsRow base e size u m zs) (hbw : w.heap.size ≤ base) (ha : Appended wr base e size u n xs H v' w') (h1 : e ≠ 25) (h2 : e ≠ 36) : ChgNow w w' gR gF gv fv fc :=
  ⟨h.below.trans (ha.below.mono hbw), ha.blk hu h.unit h1, ha.blk hu h.res h1, ha.blk hu h.fn h2⟩
set_option maxRecDepth 100000 in
set_option maxHeartbeats 8000000 in
theorem Changed_any (gv fv : Value) (gs : List Glob) (fs : List FunU) (n : Nat) (f : FunU) (p q : Int) (w : World) (hf : fs[n]? = some f) (hfl : fs.length ≤ 10) (hph : ∀ b ∈ f.blocks, b.phis = []) (hho : HeadOk f) (hargs : ∀ b ∈ f.blocks, ∀ x ∈ b.list, x.args.length ≤ 6)
    (hp : 0 ≤ p ∧ p < f.regs) (hq : 0 ≤ q ∧ q < f.regs) (hu : UnitAt w w.heap.size gv fv gs fs) :
    Calls Tryd.prog 24 #[.agg #[gv, fv], .int .i64 (n : Int), .int .i64 p, .int .i64 q] w fun e w' => ∃ fv', e = .returned (.agg #[gv, fv']) ∧ UnitAt w' w'.heap.size gv fv' gs (fs.set n (swF p q f)) ∧ Below w.heap.size w w' := by
  obtain ⟨gA, gc, hgv⟩ : ∃ gA gc, gv = .slice gA gs.length gc := by
    obtain ⟨gA, gc, e, _⟩ := hu.globs
    exact ⟨gA, gc, e⟩
  subst hgv
  obtain ⟨gl, hgl⟩ : ∃ gl, gs.length = gl := ⟨_, rfl⟩
  rw [hgl] at hu ⊢
  clear hgl
  have HU := Lib.hid hu
  obtain ⟨A, c, rfl, hl1, hl2⟩ := SlAt.form hu.funs
  obtain ⟨l, hl⟩ : ∃ l, fs.length = l := ⟨_, rfl⟩
  rw [hl] at HU hl1 hfl ⊢
  have Hl := Lib.hid hl
  have Hf := Lib.hid hf
  have hnl : n < l := by rw [← hl]; exact (List.getElem?_eq_some_iff.1 hf).1
  obtain ⟨fb, fo, f', bA, bc, rfl, hfb, hfn, f0, f1, f2, f3, hblw⟩ := FunsAt.one HU.out.funs hnl
  obtain rfl : f = f' := by
    rw [hf] at hfn
    exact Option.some.inj hfn
  obtain ⟨bl, hbl⟩ : ∃ bl, f.blocks.length = bl := ⟨_, rfl⟩
  have hbl40 : bl ≤ 40 := by rw [← hbl]; exact hho.b1
  rw [hbl] at f3 hblw
  have HBl := Lib.hid hbl
  have HBL := Lib.hid hblw
  have HPh := Lib.hid hph
  have HHo := Lib.hid hho
  have HAr := Lib.hid hargs
  have HLs : Hid (∀ b ∈ f.blocks, b.list.length ≤ 300) := Lib.hid (fun b hb => by
    have h1 : b.list.length ≤ manyU f.blocks := by
      unfold manyU
      have := le_sum_mem (f.blocks.map fun b => b.phis.length + b.list.length) _ (List.mem_map_of_mem hb)
      omega
    have := hho.many
    omega)
  have HPQ := Lib.hid (And.intro hp hq)
  have hn1 : (n : Int) < (l : Int) := by omega
  have HN0 : Hid (ChgNow w (((w.alloc (.cells #[.slice gA gl gc, .slice (some ⟨fb, fo, none⟩) l c] 25)).alloc (.cells #[.slice none 0 0, .slice none 0 0] 25)).alloc (.cells #[.string f.name, .int .i64 f.params, .int .i64 f.regs, .slice bA bl bc] 36)) (w.heap.size + 1) (w.heap.size + 1 + 1) (.slice gA gl gc) (.slice (some ⟨fb, fo, none⟩) l c) #[.string f.name, .int .i64 f.params, .int .i64 f.regs, .slice bA bl bc]) := Lib.hid (by
    refine ⟨(((Below.refl _ _).alloc (Nat.le_refl _) _).alloc (by simp) _).alloc (by simp; omega) _, ((Blk.new w _ _).alloc _).alloc _, ?_, ?_⟩
    · have h := (Blk.new (w.alloc (.cells #[.slice gA gl gc, .slice (some ⟨fb, fo, none⟩) l c] 25)) 25 #[.slice none 0 0, .slice none 0 0]).alloc (.cells #[.string f.name, .int .i64 f.params, .int .i64 f.regs, .slice bA bl bc] 36)
      rw [World.size_alloc] at h
      exact h
    · have h := Blk.new ((w.alloc (.cells #[.slice gA gl gc, .slice (some ⟨fb, fo, none⟩) l c] 25)).alloc (.cells #[.slice none 0 0, .slice none 0 0] 25)) 36 #[.string f.name, .int .i64 f.params, .int .i64 f.regs, .slice bA bl bc]
      rw [World.size_alloc, World.size_alloc] at h
      exact h)
  clear hu hl hf hfn hblw hbl hph hho hargs hp hq
  go_enter Tryd.func24, Tryd.ntmps24
  go_upto_region 4 with fail
  generalize ((w.alloc (.cells #[.slice gA gl gc, .slice (some ⟨fb, fo, none⟩) l c] 25)).alloc (.cells #[.slice none 0 0, .slice none 0 0] 25)).alloc (.cells #[.string f.name, .int .i64 f.params, .int .i64 f.regs, .slice bA bl bc] 36) = W1 at *
  generalize hgF : w.heap.size + 1 + 1 = gF at *
  generalize hgR : w.heap.size + 1 = gR at *
  have Hgs : Hid (w.heap.size < gR ∧ gR < gF) := Lib.hid (by omega)
  clear hgF hgR
  go_loopg [10, 11] bl (fun gk s i wr => ∃ j : Nat, j + gk = bl ∧ i = .int .i64 (j : Int) ∧ Hid (OwnBlks w wr w.heap.size s ((f.blocks.take j).map (swB p q))) ∧ Hid (ChgNow w wr gR gF (.slice gA gl gc) (.slice (some ⟨fb, fo, none⟩) l c) #[.string f.name, .int .i64 f.params, .int .i64 f.regs, .slice bA bl bc]))
  case atStart => exact ⟨0, by omega, rfl, Lib.hid (OwnBlks.nil _ _ _), HN0⟩
  case round =>
    obtain ⟨j, hj, rfl, HO, HN⟩ := hrel
    clear HN0
    have q0 := HN.out.fn.cell 0
    have q1 := HN.out.fn.cell 1
    have q2 := HN.out.fn.cell 2
    have q3 := HN.out.fn.cell 3
    rcases gk with _ | mk
    · have hjt : ¬ (j : Int) < (bl : Int) := by omega
      have hjl : f.blocks.take j = f.blocks := List.take_of_length_le (by rw [HBl.out]; omega)
      rw [hjl] at HO
      obtain ⟨vA, vc, rfl⟩ := HO.out.form
      have hlen : (f.blocks.map (swB p q)).length = bl := by rw [List.length_map, HBl.out]
      rw [hlen] at HO ⊢
      have z3 := HN.out.fn.frozen 3
      have hgFw : w.heap.size ≤ gF := by have := Hgs.out; omega
      have hgRw : w.heap.size ≤ gR := by have := Hgs.out; omega
      have HgR : Hid (w.heap.size ≤ gR) := Lib.hid hgRw
      have HF20 := HN.out.fn.set_ 3 (.slice vA bl vc)
      simp only [List.setIfInBounds_toArray, List.set_cons_succ, List.set_cons_zero] at HF20
      have HO21 : Hid (OwnBlks w ((wr.setCell ⟨gF, 3, none⟩ (.slice vA bl vc)).alloc (.cells #[.slice gA gl gc, .slice none 0 0] 25)) w.heap.size (.slice vA bl vc) (f.blocks.map (swB p q))) := Lib.hid ((HO.out.far HN.out.fn (by decide) (by decide) (by decide) 3 _).below ((Below.refl _ _).alloc (Nat.le_refl _) _))
      have HB21 : Hid (Below w.heap.size w ((wr.setCell ⟨gF, 3, none⟩ (.slice vA bl vc)).alloc (.cells #[.slice gA gl gc, .slice none 0 0] 25))) := Lib.hid ((HN.out.below.setCell hgFw _).alloc (HN.out.below.setCell hgFw _).size _)
      have HF21 : Hid (Blk ((wr.setCell ⟨gF, 3, none⟩ (.slice vA bl vc)).alloc (.cells #[.slice gA gl gc, .slice none 0 0] 25)) gF 36 #[.string f.name, .int .i64 f.params, .int .i64 f.regs, .slice vA bl vc]) := Lib.hid (HF20.alloc _)
      have HU21 : Hid (Blk ((wr.setCell ⟨gF, 3, none⟩ (.slice vA bl vc)).alloc (.cells #[.slice gA gl gc, .slice none 0 0] 25)) w.heap.size 25 #[.slice gA gl gc, .slice (some ⟨fb, fo, none⟩) l c]) := Lib.hid ((HN.out.unit.far (p := ⟨gF, 3, none⟩) (by have := Hgs.out; simp only; omega) _).alloc _)
      have HR21 : Hid (Blk ((wr.setCell ⟨gF, 3, none⟩ (.slice vA bl vc)).alloc (.cells #[.slice gA gl gc, .slice none 0 0] 25)) gR 25 #[.slice none 0 0, .slice none 0 0]) := Lib.hid ((HN.out.res.far (p := ⟨gF, 3, none⟩) (by have := Hgs.out; simp only; omega) _).alloc _)
      have HG21 : Hid (Blk ((wr.setCell ⟨gF, 3, none⟩ (.slice vA bl vc)).alloc (.cells #[.slice gA gl gc, .slice none 0 0] 25)) wr.heap.size 25 #[.slice gA gl gc, .slice none 0 0]) := Lib.hid (by
        have h := Blk.new (wr.setCell ⟨gF, 3, none⟩ (.slice vA bl vc)) 25 #[.slice gA gl gc, .slice none 0 0]
        rw [World.size_setCell] at h
        exact h)
      have hgO : gR ≠ wr.heap.size := by have := HN.out.res.lt; omega
      have u0 : (wr.setCell ⟨gF, 3, none⟩ (.slice vA bl vc)).cell? ⟨w.heap.size, 0, none⟩ = some (.slice gA gl gc) := (HN.out.unit.far (p := ⟨gF, 3, none⟩) (by have := Hgs.out; simp only; omega) _).cell 0
      have hgOw : w.heap.size ≤ wr.heap.size := HN.out.below.size
      obtain ⟨ys, hy1, hy2, hy3, hy4, hy5⟩ := funs_cells HU.out.funs
      have Hys := Lib.hid (And.intro hy1 (And.intro hy2 hy5))
      have hn0 : (0 : Int) ≤ (n : Int) := Int.natCast_nonneg n
      clear HO HN
      go_upto_region 27 with fail
      clear u0 HF20 z3 q0 q1 q2 q3
      generalize (wr.setCell ⟨gF, 3, none⟩ (.slice vA bl vc)).alloc (.cells #[.slice gA gl gc, .slice none 0 0] 25) = W21 at *
      generalize wr.heap.size = gO at *
      have Hnl : Hid ((ys.flatMap funK).length = l * 4) := Lib.hid (by
        rw [List.length_flatMap, show (ys.map fun x => (funK x).length) = ys.map fun _ => 4 from rfl]
        simp only [List.map_const', List.sum_replicate_nat, hy2])
      have Hnews : Hid (0 < l → ∃ ad, (some (⟨fb, fo, none⟩ : Addr)) = some ad ∧ ∀ j u, (ys.flatMap funK)[j]? = some u → W21.cell? (ad.add j) = some u) := Lib.hid (fun _ => ⟨_, rfl, fun j u hu => by
        rw [addr_add]
        exact (bcell HB21.out hfb).trans (hy3 j u hu)⟩)
      have Hone := Lib.hid hy4
      have g1 := HG21.out.cell 1
      have u1 := HU21.out.cell 1
      clear hy1 hy2 hy3 hy4 hy5
      go_upto_region 28 with (at_builtin; refine app_src rfl _ _ 23 36 rfl (.agg #[.string ⟨#[]⟩, .int .i64 0, .int .i64 0, .slice none 0 0]) 4 56 Tryd.underlying23 infoFn rfl (by decide) (by decide) W21.heap.size (.slice none 0 0) 0 [] (by rfl) (World.ownsRow_nil _ _ _ _) (some ⟨fb, fo, none⟩) l c (ys.flatMap funK) (by rfl) Hnl.out Hnews.out Hone.out (by omega) (Nat.le_refl _) _ rfl ?_; intro v22 w22 HA22; rw [Nat.zero_add, List.nil_append] at HA22; obtain ⟨gN, cN, hvN, hgN, _⟩ := World.ownsRow.form HA22.out.own (by omega); subst hvN; have hG22 := HA22.out.blk (World.ownsRow_nil _ _ _ _) HG21.out (by decide); have g1 := hG22.cell 1; have zg1 := hG22.frozen 1)
      have hG22 := HA22.out.blk (World.ownsRow_nil _ _ _ _) HG21.out (by decide)
      have hB22 : Below W21.heap.size W21 w22 := HA22.out.below
      have hF22 := HF21.out.below hB22 HF21.out.lt
      have hR22 := HA22.out.blk (World.ownsRow_nil _ _ _ _) HR21.out (by decide)
      have HO23 : Hid (OwnBlks w (w22.setCell ⟨gO, 1, none⟩ (.slice (some ⟨gN, 0, none⟩) l cN)) w.heap.size (.slice vA bl vc) (f.blocks.map (swB p q))) := Lib.hid ((HO21.out.below hB22).far hG22 (by decide) (by decide) (by decide) 1 _)
      have HB23 : Hid (Below w.heap.size w (w22.setCell ⟨gO, 1, none⟩ (.slice (some ⟨gN, 0, none⟩) l cN))) := Lib.hid ((HB21.out.trans (hB22.mono HB21.out.size)).setCell (p := ⟨gO, 1, none⟩) hgOw _)
      have HF23 := Lib.hid (hF22.far (p := ⟨gO, 1, none⟩) (blk_ne hF22 hG22 (by decide)) (.slice (some ⟨gN, 0, none⟩) l cN))
      have HG23 := Lib.hid (hG22.set_ 1 (.slice (some ⟨gN, 0, none⟩) l cN))
      simp only [List.setIfInBounds_toArray, List.set_cons_succ, List.set_cons_zero] at HG23
      have HR23 := Lib.hid (hR22.far (p := ⟨gO, 1, none⟩) hgO (.slice (some ⟨gN, 0, none⟩) l cN))
      have HX23 : Hid ((w22.setCell ⟨gO, 1, none⟩ (.slice (some ⟨gN, 0, none⟩) l cN)).ownsRow W21.heap.size 36 4 (.slice (some ⟨gN, 0, none⟩) l cN) l (ys.flatMap funK)) := Lib.hid (row_far HA22.out.own hG22 (by decide) _)
      have HgN : Hid (w.heap.size ≤ gN) := Lib.hid (Nat.le_trans HB21.out.size hgN)
      clear hG22 hF22 hR22 hB22 HA22 HO21 HF21 HU21 HR21 HG21 HB21 g1 zg1 u1 Hnews Hone
      generalize w22.setCell ⟨gO, 1, none⟩ (.slice (some ⟨gN, 0, none⟩) l cN) = W23 at *
      have g0 := HG23.out.cell 0
      have g1 := HG23.out.cell 1
      have q0 := HF23.out.cell 0
      have q1 := HF23.out.cell 1
      have q2 := HF23.out.cell 2
      have q3 := HF23.out.cell 3
      obtain ⟨yn, hyn⟩ : ∃ yn, ys[n]? = some yn := ⟨_, List.getElem?_eq_getElem (by rw [Hys.out.2.1]; exact hnl)⟩
      have r0 := row_cell HX23.out ((flat_at (size := 4) funK (fun _ => rfl) ys n 0 yn hyn (by decide)).trans rfl)
      have r1 := row_cell HX23.out ((flat_at (size := 4) funK (fun _ => rfl) ys n 1 yn hyn (by decide)).trans rfl)
      have r2 := row_cell HX23.out ((flat_at (size := 4) funK (fun _ => rfl) ys n 2 yn hyn (by decide)).trans rfl)
      have r3 := row_cell HX23.out ((flat_at (size := 4) funK (fun _ => rfl) ys n 3 yn hyn (by decide)).trans rfl)
      have z0 := World.ownsRow.frozenAt HX23.out (n * 4)
      have z1 := World.ownsRow.frozenAt HX23.out (n * 4 + 1)
      have z2 := World.ownsRow.frozenAt HX23.out (n * 4 + 2)
      have z3 := World.ownsRow.frozenAt HX23.out (n * 4 + 3)
      rw [Nat.add_zero] at r0
      go_upto_region 29 with fail
      obtain ⟨cur, hN0⟩ : ∃ cur, Blk W23 gN 36 cur := by
        rcases HX23.out.2 with ⟨e, _⟩ | ⟨g, cap, cur, e, _, hh, _⟩
        · cases e
        · injection e with e
          injection e with e
          injection e with e
          subst e
          exact ⟨cur, hh⟩
      have hN1 := hN0.set_ (n * 4) (.string f.name)
      have hN2 := hN1.set_ (n * 4 + 1) (.int .i64 f.params)
      have hN3 := hN2.set_ (n * 4 + 2) (.int .i64 f.regs)
      have HX24 := Lib.hid ((((HX23.out.stored (n * 4) (.string f.name)).1.stored (n * 4 + 1) (.int .i64 f.params)).1.stored (n * 4 + 2) (.int .i64 f.regs)).1.stored (n * 4 + 3) (.slice vA bl vc)).1
      have hfs := fun_set ys n (swF p q f, .slice vA bl vc) (by rw [Hys.out.2.1]; exact hnl)
      rw [show (((((ys.flatMap funK).set (n * 4) (.string f.name)).set (n * 4 + 1) (.int .i64 f.params)).set (n * 4 + 2) (.int .i64 f.regs)).set (n * 4 + 3) (.slice vA bl vc)) = (ys.set n (swF p q f, .slice vA bl vc)).flatMap funK from hfs] at HX24
      have HO24 := Lib.hid ((((HO23.out.far hN0 (by decide) (by decide) (by decide) (n * 4) (.string f.name)).far hN1 (by decide) (by decide) (by decide) (n * 4 + 1) (.int .i64 f.params)).far hN2 (by decide) (by decide) (by decide) (n * 4 + 2) (.int .i64 f.regs)).far hN3 (by decide) (by decide) (by decide) (n * 4 + 3) (.slice vA bl vc))
      have hgON : gO ≠ gN := blk_ne HG23.out hN0 (by decide)
      have hgRN : gR ≠ gN := blk_ne HR23.out hN0 (by decide)
      have HG24 := Lib.hid ((((HG23.out.far (p := ⟨gN, n * 4, none⟩) hgON (.string f.name)).far (p := ⟨gN, n * 4 + 1, none⟩) hgON (.int .i64 f.params)).far (p := ⟨gN, n * 4 + 2, none⟩) hgON (.int .i64 f.regs)).far (p := ⟨gN, n * 4 + 3, none⟩) hgON (.slice vA bl vc))
      have HR24 := Lib.hid ((((HR23.out.far (p := ⟨gN, n * 4, none⟩) hgRN (.string f.name)).far (p := ⟨gN, n * 4 + 1, none⟩) hgRN (.int .i64 f.params)).far (p := ⟨gN, n * 4 + 2, none⟩) hgRN (.int .i64 f.regs)).far (p := ⟨gN, n * 4 + 3, none⟩) hgRN (.slice vA bl vc))
      have HB24 := Lib.hid ((((HB23.out.setCell (p := ⟨gN, n * 4, none⟩) HgN.out (.string f.name)).setCell (p := ⟨gN, n * 4 + 1, none⟩) HgN.out (.int .i64 f.params)).setCell (p := ⟨gN, n * 4 + 2, none⟩) HgN.out (.int .i64 f.regs)).setCell (p := ⟨gN, n * 4 + 3, none⟩) HgN.out (.slice vA bl vc))
      clear HX23 HO23 HG23 HR23 HB23 HF23 hN0 hN1 hN2 hN3 hfs g0 g1 q0 q1 q2 q3 r0 r1 r2 r3 z0 z1 z2 z3
      generalize (((W23.setCell ⟨gN, n * 4, none⟩ (.string f.name)).setCell ⟨gN, n * 4 + 1, none⟩ (.int .i64 f.params)).setCell ⟨gN, n * 4 + 2, none⟩ (.int .i64 f.regs)).setCell ⟨gN, n * 4 + 3, none⟩ (.slice vA bl vc) = W24 at *
      have g0 := HG24.out.cell 0
      have g1 := HG24.out.cell 1
      have y0 := HR24.out.cell 0
      have y1 := HR24.out.cell 1
      have z0 := HR24.out.frozen 0
      have z1 := HR24.out.frozen 1
      go_wp2_with fail
      have hB25 : Below w.heap.size w ((W24.setCell ⟨gR, 0, none⟩ (.slice gA gl gc)).setCell ⟨gR, 1, none⟩ (.slice (some ⟨gN, 0, none⟩) l cN)) := (HB24.out.setCell (p := ⟨gR, 0, none⟩) HgR.out _).setCell (p := ⟨gR, 1, none⟩) HgR.out _
      have hR25 := HR24.out.set_ 0 (.slice gA gl gc)
      have hO25 := (HO24.out.far HR24.out (by decide) (by decide) (by decide) 0 (.slice gA gl gc)).far hR25 (by decide) (by decide) (by decide) 1 (.slice (some ⟨gN, 0, none⟩) l cN)
      have hX25 := row_far (o := 1) (row_far (o := 0) HX24.out HR24.out (by decide) (.slice gA gl gc)) hR25 (by decide) (.slice (some ⟨gN, 0, none⟩) l cN)
      refine end_cell rfl rfl (HR24.out.set2 _ _) Tryd.underlying25 rfl (by kernel_rfl) rfl ⟨_, rfl, ?_, hB25⟩
      have hU := HU.out.later hB25
      have hmf : (ys.set n (swF p q f, .slice vA bl vc)).map Prod.fst = fs.set n (swF p q f) := by
        rw [← Hys.out.1, List.map_set]
      have hlen2 : (ys.set n (swF p q f, .slice vA bl vc)).length = l := by rw [List.length_set, Hys.out.2.1]
      have hfuns := sl_of_row (P := FunP) (base := W21.heap.size) (e := 36) (v := .slice (some ⟨gN, 0, none⟩) l cN) funK Prod.fst (fun _ => rfl) (ys := ys.set n (swF p q f, .slice vA bl vc)) (by rw [hlen2]; exact hX25) (by omega) (fun i y hy => by
        refine ⟨y.2, rfl, ?_⟩
        rw [List.getElem?_set] at hy
        split at hy
        · rw [if_pos (by rw [Hys.out.2.1]; exact hnl)] at hy
          obtain rfl := Option.some.inj hy
          refine hO25.at_ hB25 (by rw [List.length_map, HBl.out]; omega) (fun b hb => ?_) (fun b hb => ?_)
          · obtain ⟨b0, hb0, rfl⟩ := List.mem_map.1 hb
            refine ⟨?_, fun x hx => ?_⟩
            · show (b0.list.map (swI p q)).length ≤ 1000
              rw [List.length_map]
              have := HLs.out b0 hb0
              omega
            · obtain ⟨x0, hx0, rfl⟩ := List.mem_map.1 hx
              show (x0.args.map (swV p q)).length ≤ 1000
              rw [List.length_map]
              have := HAr.out b0 hb0 x0 hx0
              omega
          · obtain ⟨b0, hb0, rfl⟩ := List.mem_map.1 hb
            rfl
        · exact (Hys.out.2.2 i y hy).move hB25.size (kept_of hB25 (Nat.le_refl _)))
      rw [hmf] at hfuns
      refine ⟨HU.out.globs.below hB25 (Nat.le_refl _) |>.more hB25.size, hfuns, hU.gok, fun g hg => ?_, hU.ways, hU.lt, Nat.le_refl _⟩
      rcases List.mem_or_eq_of_mem_set hg with h | h
      · exact HU.out.fok g h
      · rw [h]
        have := HHo.out.r1
        have := HPQ.out
        exact swF_ok (by omega) (by omega) (HU.out.fok f (List.mem_of_getElem? Hf.out))
    · have hjt : (j : Int) < (bl : Int) := by omega
      have hj0 : (0 : Int) ≤ (j : Int) := Int.natCast_nonneg j
      have hjl : j < bl := by omega
      obtain ⟨bb, bo, b, pA, pc, lA, lc, tA, tc, rfl, hbb, hbj, p0, p1, p2, p3, p4, p5, _, hli, hti⟩ := BlksAt.one HBL.out hjl
      have p0 := (bcell HN.out.below hbb).trans p0
      have p1 := (bcell HN.out.below hbb).trans p1
      have p2 := (bcell HN.out.below hbb).trans p2
      have p3 := (bcell HN.out.below hbb).trans p3
      have p4 := (bcell HN.out.below hbb).trans p4
      have p5 := (bcell HN.out.below hbb).trans p5
      have hbm := List.mem_of_getElem? hbj
      obtain ⟨ll, hll⟩ : ∃ ll, b.list.length = ll := ⟨_, rfl⟩
      have hll300 : ll ≤ 300 := by rw [← hll]; exact HLs.out b hbm
      rw [hll] at p1 hli
      have Hll := Lib.hid hll
      have Hbj := Lib.hid hbj
      have HLI := Lib.hid hli
      have HTI := Lib.hid hti
      have HAb := Lib.hid (HAr.out b hbm)
      have HN2 := Lib.hid (HN.out.next ((Below.refl _ _).alloc (Nat.le_refl _) (.cells #[.slice pA b.phis.length pc, .slice lA ll lc, .int .i64 b.kind, .bool b.on.reg, .int .i64 b.on.n, .slice tA b.to.length tc] 44)))
      have HO2 := Lib.hid (HO.out.below ((Below.refl _ _).alloc (Nat.le_refl _) (.cells #[.slice pA b.phis.length pc, .slice lA ll lc, .int .i64 b.kind, .bool b.on.reg, .int .i64 b.on.n, .slice tA b.to.length tc] 44)))
      have HX2 : Hid (Blk (wr.alloc (.cells #[.slice pA b.phis.length pc, .slice lA ll lc, .int .i64 b.kind, .bool b.on.reg, .int .i64 b.on.n, .slice tA b.to.length tc] 44)) wr.heap.size 44 #[.slice pA b.phis.length pc, .slice lA ll lc, .int .i64 b.kind, .bool b.on.reg, .int .i64 b.on.n, .slice tA b.to.length tc]) := Lib.hid (Blk.new _ _ _)
      clear hbj hbm hll hli hti HO HN
      go_upto_region 9 with fail
      generalize hgB : wr.heap.size = gB at *
      generalize wr.alloc (.cells #[.slice pA b.phis.length pc, .slice lA ll lc, .int .i64 b.kind, .bool b.on.reg, .int .i64 b.on.n, .slice tA b.to.length tc] 44) = W2 at *
      clear q0 q1 q2 q3 p0 p1 p2 p3 p4 p5 hgB
      go_loopg [13, 14] ll (fun gk s i wx => ∃ m : Nat, m + gk = ll ∧ i = .int .i64 (m : Int) ∧ Hid (OwnInss wx W2.heap.size s ((b.list.take m).map (swI p q))) ∧ Hid (Below W2.heap.size W2 wx))
      case atStart => exact ⟨0, by omega, rfl, Lib.hid (OwnInss.nil _ _), Lib.hid (Below.refl _ _)⟩
      case round =>
        obtain ⟨m, hm, rfl, HOm, HBm⟩ := hrel
        have HXm := Lib.hid (HX2.out.below HBm.out HX2.out.lt)
        have x0 := HXm.out.cell 0
        have x1 := HXm.out.cell 1
        have x2 := HXm.out.cell 2
        have x3 := HXm.out.cell 3
        have x4 := HXm.out.cell 4
        have x5 := HXm.out.cell 5
        rcases gk with _ | nk
        · have hmt : ¬ (m : Int) < (ll : Int) := by omega
          have hml : b.list.take m = b.list := List.take_of_length_le (by rw [Hll.out]; omega)
          rw [hml] at HOm
          obtain ⟨vA, vc, rfl⟩ := HOm.out.form
          have hlen : (b.list.map (swI p q)).length = ll := by rw [List.length_map, Hll.out]
          rw [hlen] at HOm ⊢
          have HB12 : Hid (Below W2.heap.size W2 (wr.alloc (.cells #[.int .i64 b.kind, .bool b.on.reg, .int .i64 b.on.n, .slice tA b.to.length tc] 42))) := Lib.hid (HBm.out.alloc HBm.out.size _)
          have HO12 := Lib.hid (HOm.out.below ((Below.refl _ _).alloc (Nat.le_refl _) (.cells #[.int .i64 b.kind, .bool b.on.reg, .int .i64 b.on.n, .slice tA b.to.length tc] 42)))
          have HE12 : Hid (Blk (wr.alloc (.cells #[.int .i64 b.kind, .bool b.on.reg, .int .i64 b.on.n, .slice tA b.to.length tc] 42)) wr.heap.size 42 #[.int .i64 b.kind, .bool b.on.reg, .int .i64 b.on.n, .slice tA b.to.length tc]) := Lib.hid (Blk.new _ _ _)
          have hgE := HBm.out.size
          clear hml HOm
          go_upto_region 23 with fail
          generalize wr.alloc (.cells #[.int .i64 b.kind, .bool b.on.reg, .int .i64 b.on.n, .slice tA b.to.length tc] 42) = W12 at *
          generalize wr.heap.size = gE at *
          clear x0 x1 x2 x3 x4 x5 HBm HXm
          have e1 := HE12.out.cell 1
          have e2 := HE12.out.cell 2
          go_wp2_with fail
          refine (swapVal_any b.on p q W12).mono ?_
          rintro e W13 ⟨rfl, hb13⟩
          have HB13 := Lib.hid (HB12.out.trans (hb13.mono HB12.out.size))
          have HO13 := Lib.hid (HO12.out.below hb13)
          have HE13 := Lib.hid (HE12.out.below hb13 HE12.out.lt)
          clear hb13 e1 e2 HB12 HO12 HE12
          have e1 := HE13.out.cell 1
          have e2 := HE13.out.cell 2
          have z1 := HE13.out.frozen 1
          have z2 := HE13.out.frozen 2
          go_upto_region 24 with fail
          have HB14 := Lib.hid ((HB13.out.setCell (p := ⟨gE, 1, none⟩) hgE (.bool (swV p q b.on).reg)).setCell (p := ⟨gE, 2, none⟩) hgE (.int .i64 (swV p q b.on).n))
          have HO14 := Lib.hid ((HO13.out.far HE13.out (by decide) (by decide) 1 (.bool (swV p q b.on).reg)).far (HE13.out.set_ 1 _) (by decide) (by decide) 2 (.int .i64 (swV p q b.on).n))
          have HE14 := Lib.hid ((HE13.out.set_ 1 (.bool (swV p q b.on).reg)).set_ 2 (.int .i64 (swV p q b.on).n))
          simp only [List.setIfInBounds_toArray, List.set_cons_succ, List.set_cons_zero] at HE14
          generalize (W13.setCell ⟨gE, 1, none⟩ (.bool (swV p q b.on).reg)).setCell ⟨gE, 2, none⟩ (.int .i64 (swV p q b.on).n) = W14 at *
          clear e1 e2 z1 z2 HB13 HO13 HE13
          have e0 := HE14.out.cell 0
          have e1 := HE14.out.cell 1
          have e2 := HE14.out.cell 2
          have e3 := HE14.out.cell 3
          obtain ⟨ys, hy1, hy2, hy3⟩ := HO2.out.below HB14.out
          have hyl : ys.length = j := by
            have := congrArg List.length hy1
            rw [List.length_map, List.length_map, List.length_take, HBl.out] at this
            omega
          have HY := Lib.hid (And.intro hy1 (And.intro hy2 hy3))
          have HN14 := Lib.hid (HN2.out.next HB14.out)
          have hz14 : w.heap.size ≤ W14.heap.size := HN14.out.below.size
          have HO15 := Lib.hid (HO14.out.more HN2.out.below.size)
          clear hy1 hy2 hy3 HO14 HB14 HO2 HN2 HX2
          go_wp2_with (at_builtin; refine app_one rfl _ _ 34 44 rfl (.agg #[.slice none 0 0, .slice none 0 0, .int .i64 0, .bool false, .int .i64 0, .slice none 0 0]) 6 96 Tryd.underlying34 infoK rfl (by decide) (by decide) w.heap.size _ _ _ (by rfl) HY.out.2.1 _ [.slice none 0 0, .slice vA ll vc, .int .i64 b.kind, .bool (swV p q b.on).reg, .int .i64 (swV p q b.on).n, .slice tA b.to.length tc] (by rfl) rfl (fun x hx => by simp only [List.mem_cons, List.not_mem_nil, or_false] at hx; rcases hx with rfl | rfl | rfl | rfl | rfl | rfl <;> rfl) rfl (by omega) hz14 ?_; intro v16 w16 HA16)
          have HO16 : Hid (OwnBlks w w16 w.heap.size v16 ((f.blocks.take (j + 1)).map (swB p q))) := Lib.hid (by
            obtain ⟨h1, h2⟩ := List.getElem?_eq_some_iff.1 Hbj.out
            rw [List.take_succ_eq_append_getElem h1, h2, List.map_append, ← HY.out.1]
            exact OwnBlks.snoc (y := (swB p q b, .slice vA ll vc, .slice tA b.to.length tc)) HY.out.2.1 HY.out.2.2 ⟨HO15.out, HTI.out⟩ HA16.out)
          have HN16 := Lib.hid (HN14.out.grow HY.out.2.1 (Nat.le_refl _) HA16.out (by decide) (by decide))
          go_roundg mk
          case measure => omega
          case rel => exact ⟨j + 1, by omega, by go_num, HO16, HN16⟩
        · have hmt : (m : Int) < (ll : Int) := by omega
          have hm0 : (0 : Int) ≤ (m : Int) := Int.natCast_nonneg m
          have hml : m < ll := by omega
          obtain ⟨ib, io, x, aA, ac, rfl, hib, hxm, i0, i1, i2, i3, i4, i5, i6, i7, hop⟩ := InssAt.one HLI.out hml
          have hbw := HN2.out.below.trans (HBm.out.mono HN2.out.below.size)
          have i0 := (bcell hbw hib).trans i0
          have i1 := (bcell hbw hib).trans i1
          have i2 := (bcell hbw hib).trans i2
          have i3 := (bcell hbw hib).trans i3
          have i4 := (bcell hbw hib).trans i4
          have i5 := (bcell hbw hib).trans i5
          have i6 := (bcell hbw hib).trans i6
          have i7 := (bcell hbw hib).trans i7
          have HBw := Lib.hid hbw
          have Hxm := Lib.hid hxm
          have Hop := Lib.hid hop
          have hal6 : x.args.length ≤ 6 := HAb.out x (List.mem_of_getElem? hxm)
          have HB3 : Hid (Below wr.heap.size wr (wr.alloc (.cells #[.int .i64 x.op, .int .i64 x.dst, .bool x.a.reg, .int .i64 x.a.n, .bool x.b.reg, .int .i64 x.b.n, .int .i64 x.fn, .slice aA x.args.length ac] 47))) := Lib.hid ((Below.refl _ _).alloc (Nat.le_refl _) _)
          have HI3 : Hid (Blk (wr.alloc (.cells #[.int .i64 x.op, .int .i64 x.dst, .bool x.a.reg, .int .i64 x.a.n, .bool x.b.reg, .int .i64 x.b.n, .int .i64 x.fn, .slice aA x.args.length ac] 47)) wr.heap.size 47 #[.int .i64 x.op, .int .i64 x.dst, .bool x.a.reg, .int .i64 x.a.n, .bool x.b.reg, .int .i64 x.b.n, .int .i64 x.fn, .slice aA x.args.length ac]) := Lib.hid (Blk.new _ _ _)
          clear hxm hop hbw
          go_upto_region 12 with fail
          generalize hW5 : wr = W5 at *
          clear hW5
          generalize W5.alloc (.cells #[.int .i64 x.op, .int .i64 x.dst, .bool x.a.reg, .int .i64 x.a.n, .bool x.b.reg, .int .i64 x.b.n, .int .i64 x.fn, .slice aA x.args.length ac] 47) = W3 at *
          generalize hgX : W5.heap.size = gX at *
          have HgE := Lib.hid hgX
          have HgX : Hid (∀ W', Below gX W5 W' → gX ≤ W'.heap.size) := Lib.hid (fun W' h => by have := h.size; omega)
          have HgW : Hid (w.heap.size ≤ gX) := Lib.hid (by have := HBw.out.size; omega)
          clear hgX i0 i1 i2 i3 i4 i5 i6 i7 x0 x1 x2 x3 x4 x5
          have y1 := HI3.out.cell 1
          have z1 := HI3.out.frozen 1
          go_wp2_with fail
          refine (swap_any x.dst p q W3).mono ?_
          rintro e w' ⟨rfl, rfl⟩
          go_upto_region 13 with fail
          have HB4 := Lib.hid (HB3.out.setCell (p := ⟨gX, 1, none⟩) (Nat.le_refl _) (.int .i64 (swR p q x.dst)))
          have HI4 := Lib.hid (HI3.out.set_ 1 (.int .i64 (swR p q x.dst)))
          simp only [List.setIfInBounds_toArray, List.set_cons_succ, List.set_cons_zero] at HI4
          generalize W3.setCell ⟨gX, 1, none⟩ (.int .i64 (swR p q x.dst)) = W4 at *
          have y2 := HI4.out.cell 2
          have y3 := HI4.out.cell 3
          have z2 := HI4.out.frozen 2
          have z3 := HI4.out.frozen 3
          clear y1 z1 HB3 HI3
          go_wp2_with fail
          refine (swapVal_any x.a p q W4).mono ?_
          rintro e W6 ⟨rfl, hb6⟩
          have HB6 := Lib.hid (HB4.out.trans (hb6.mono (HgX.out _ HB4.out)))
          have HI6 := Lib.hid (HI4.out.below hb6 HI4.out.lt)
          clear hb6 y2 y3 z2 z3 HB4 HI4
          have z2 := HI6.out.frozen 2
          have z3 := HI6.out.frozen 3
          have y2 := HI6.out.cell 2
          have y3 := HI6.out.cell 3
          go_upto_region 14 with fail
          have HB7 := Lib.hid ((HB6.out.setCell (p := ⟨gX, 2, none⟩) (Nat.le_refl _) (.bool (swV p q x.a).reg)).setCell (p := ⟨gX, 3, none⟩) (Nat.le_refl _) (.int .i64 (swV p q x.a).n))
          have HI7 := Lib.hid ((HI6.out.set_ 2 (.bool (swV p q x.a).reg)).set_ 3 (.int .i64 (swV p q x.a).n))
          simp only [List.setIfInBounds_toArray, List.set_cons_succ, List.set_cons_zero] at HI7
          generalize (W6.setCell ⟨gX, 2, none⟩ (.bool (swV p q x.a).reg)).setCell ⟨gX, 3, none⟩ (.int .i64 (swV p q x.a).n) = W7 at *
          have y4 := HI7.out.cell 4
          have y5 := HI7.out.cell 5
          clear y2 y3 z2 z3 HB6 HI6
          go_wp2_with fail
          refine (swapVal_any x.b p q W7).mono ?_
          rintro e W8 ⟨rfl, hb8⟩
          have HB8 := Lib.hid (HB7.out.trans (hb8.mono (HgX.out _ HB7.out)))
          have HI8 := Lib.hid (HI7.out.below hb8 HI7.out.lt)
          clear hb8 y4 y5 HB7 HI7
          have z4 := HI8.out.frozen 4
          have z5 := HI8.out.frozen 5
          have y4 := HI8.out.cell 4
          have y5 := HI8.out.cell 5
          go_upto_region 17 with fail
          have HB9 := Lib.hid ((HB8.out.setCell (p := ⟨gX, 4, none⟩) (Nat.le_refl _) (.bool (swV p q x.b).reg)).setCell (p := ⟨gX, 5, none⟩) (Nat.le_refl _) (.int .i64 (swV p q x.b).n))
          have HI9 := Lib.hid ((HI8.out.set_ 4 (.bool (swV p q x.b).reg)).set_ 5 (.int .i64 (swV p q x.b).n))
          simp only [List.setIfInBounds_toArray, List.set_cons_succ, List.set_cons_zero] at HI9
          generalize (W8.setCell ⟨gX, 4, none⟩ (.bool (swV p q x.b).reg)).setCell ⟨gX, 5, none⟩ (.int .i64 (swV p q x.b).n) = W9 at *
          clear y4 y5 z4 z5 HB8 HI8
          obtain ⟨al, hal⟩ : ∃ al, x.args.length = al := ⟨_, rfl⟩
          rw [hal] at Hop HI9 hal6
          have Hal := Lib.hid hal
          clear hal
          go_loopg [16, 17] al (fun gk s i wx => ∃ t : Nat, t + gk = al ∧ i = .int .i64 (t : Int) ∧ Hid (OwnOpds wx W9.heap.size s ((x.args.take t).map (swV p q))) ∧ Hid (Below W9.heap.size W9 wx))
          case atStart => exact ⟨0, by omega, rfl, Lib.hid (OwnOpds.nil _ _), Lib.hid (Below.refl _ _)⟩
          case round =>
            obtain ⟨t, ht, rfl, HOt, HBt⟩ := hrel
            have HIt := Lib.hid (HI9.out.below HBt.out HI9.out.lt)
            have y7 := HIt.out.cell 7
            rcases gk with _ | ok
            · have htt : ¬ (t : Int) < (al : Int) := by omega
              have htl : x.args.take t = x.args := List.take_of_length_le (by rw [Hal.out]; omega)
              rw [htl] at HOt
              have hlen : (x.args.map (swV p q)).length = al := by rw [List.length_map, Hal.out]
              obtain ⟨vA, vc, rfl⟩ := row_form HOt.out
              rw [hlen] at HOt ⊢
              have z7 := HIt.out.frozen 7
              go_upto_region 21 with fail
              have HB10 : Hid (Below gX W5 (wr.setCell ⟨gX, 7, none⟩ (.slice vA al vc))) := Lib.hid ((HB9.out.trans (HBt.out.mono (HgX.out _ HB9.out))).setCell (p := ⟨gX, 7, none⟩) (Nat.le_refl _) _)
              have HI10 := Lib.hid (HIt.out.set_ 7 (.slice vA al vc))
              have HO10 : Hid (OwnOpds (wr.setCell ⟨gX, 7, none⟩ (.slice vA al vc)) W2.heap.size (.slice vA al vc) (x.args.map (swV p q))) := Lib.hid ((HOt.out.far HIt.out (by decide) 7 _).more (by have := HBm.out.size; have := HB9.out.size; omega))
              simp only [List.setIfInBounds_toArray, List.set_cons_succ, List.set_cons_zero] at HI10
              generalize wr.setCell ⟨gX, 7, none⟩ (.slice vA al vc) = W10 at *
              clear y7 z7 HOt HBt HIt HI9 HB9 htl
              have y0 := HI10.out.cell 0
              have y1 := HI10.out.cell 1
              have y2 := HI10.out.cell 2
              have y3 := HI10.out.cell 3
              have y4 := HI10.out.cell 4
              have y5 := HI10.out.cell 5
              have y6 := HI10.out.cell 6
              have y7 := HI10.out.cell 7
              obtain ⟨ys, hy1, hy2, hy3⟩ := HOm.out.below (by rw [HgE.out]; exact HB10.out)
              have hyl : ys.length = m := by
                have := congrArg List.length hy1
                rw [List.length_map, List.length_map, List.length_take, Hll.out] at this
                omega
              have HY := Lib.hid (And.intro hy1 (And.intro hy2 hy3))
              have hz10 : W2.heap.size ≤ W10.heap.size := by have := HBm.out.size; have := HB10.out.size; omega
              clear hy1 hy2 hy3 HOm
              go_wp2_with (at_builtin; refine app_one rfl _ _ 38 47 rfl (.agg #[.int .i64 0, .int .i64 0, .bool false, .int .i64 0, .bool false, .int .i64 0, .int .i64 0, .slice none 0 0]) 8 80 Tryd.underlying38 infoX rfl (by decide) (by decide) W2.heap.size _ _ _ (by rfl) HY.out.2.1 _ [.int .i64 x.op, .int .i64 (swR p q x.dst), .bool (swV p q x.a).reg, .int .i64 (swV p q x.a).n, .bool (swV p q x.b).reg, .int .i64 (swV p q x.b).n, .int .i64 x.fn, .slice vA al vc] (by rfl) rfl (fun x hx => by simp only [List.mem_cons, List.not_mem_nil, or_false] at hx; rcases hx with rfl | rfl | rfl | rfl | rfl | rfl | rfl | rfl <;> rfl) rfl (by omega) hz10 ?_; intro v11 w11 HA11)
              have HO11 : Hid (OwnInss w11 W2.heap.size v11 ((b.list.take (m + 1)).map (swI p q))) := Lib.hid (by
                obtain ⟨h1, h2⟩ := List.getElem?_eq_some_iff.1 Hxm.out
                rw [List.take_succ_eq_append_getElem h1, h2, List.map_append, ← HY.out.1]
                exact OwnInss.snoc (y := (swI p q x, .slice vA al vc)) HY.out.2.1 HY.out.2.2 HO10.out HA11.out)
              have HB11 : Hid (Below W2.heap.size W2 w11) := Lib.hid ((HBm.out.trans (HB10.out.mono (by have := HBm.out.size; have := HgE.out; omega))).trans HA11.out.below)
              go_roundg nk
              case measure => omega
              case rel => exact ⟨m + 1, by omega, by go_num, HO11, HB11⟩
            · have htt : (t : Int) < (al : Int) := by omega
              have ht0 : (0 : Int) ≤ (t : Int) := Int.natCast_nonneg t
              obtain ⟨av, hav⟩ : ∃ av, x.args[t]? = some av := ⟨_, List.getElem?_eq_getElem (by rw [Hal.out]; omega)⟩
              obtain ⟨ab, ao, rfl, hab, us, rfl, hcs⟩ := SlAt.at Hop.out hav
              have hbt := HBw.out.trans (HB9.out.mono HgW.out)
              have hbt2 := hbt.trans (HBt.out.mono hbt.size)
              have a0 := (bcell hbt2 hab).trans (hcs 0 _ rfl)
              have a1 := (bcell hbt2 hab).trans (hcs 1 _ rfl)
              rw [Nat.add_zero] at a0
              have Hav := Lib.hid hav
              clear hav hbt hbt2 hcs
              go_wp2_with fail
              refine (swapVal_any av p q wr).mono ?_
              rintro e w5 ⟨rfl, hb5⟩
              have HB5 := Lib.hid (HBt.out.trans (hb5.mono HBt.out.size))
              have HO5 := Lib.hid (HOt.out.below hb5)
              have hz5 := HB5.out.size
              have hal5 : ((x.args.take t).map (swV p q)).length = t := by rw [List.length_map, List.length_take, Hal.out]; omega
              have Hl5 := Lib.hid hal5
              unfold OwnOpds at HO5
              rw [hal5] at HO5
              clear hb5 a0 a1 y7 hal5 HOt
              go_wp2_with (at_builtin; refine app_one rfl _ _ 45 40 rfl (.agg #[.bool false, .int .i64 0]) 2 16 Tryd.underlying45 infoV rfl (by decide) (by decide) W9.heap.size _ _ _ (by rfl) HO5.out _ [.bool (swV p q av).reg, .int .i64 (swV p q av).n] (by rfl) rfl (fun x hx => by simp only [List.mem_cons, List.not_mem_nil, or_false] at hx; rcases hx with rfl | rfl <;> rfl) rfl (by omega) hz5 ?_; intro v6 w6 HA6)
              have HO6 : Hid (OwnOpds w6 W9.heap.size v6 ((x.args.take (t + 1)).map (swV p q))) := Lib.hid (by
                obtain ⟨h1, h2⟩ := List.getElem?_eq_some_iff.1 Hav.out
                have h := HA6.out
                have h4 : Appended w5 W9.heap.size 40 2 u16 (((x.args.take t).map (swV p q)).length + 1) (((x.args.take t).map (swV p q)).flatMap opdK ++ opdK (swV p q av)) (w5.heap.size + 1) v6 w6 := by
                  rw [Hl5.out]
                  exact h
                have h5 := OwnOpds.snoc h4
                rw [List.take_succ_eq_append_getElem h1, h2, List.map_append]
                exact h5)
              have HB6 := Lib.hid (HB5.out.trans HA6.out.below)
              go_roundg ok
              case measure => omega
              case rel => exact ⟨t + 1, by omega, by go_num, HO6, HB6⟩
end Go.Proofs.YtgnkkgbjcodihaaDoor
