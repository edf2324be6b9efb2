/-
  clash.Fault, and the reference's.
  Conditions: the unit's numbers are Go's.
-/
import Derived.Test.YtiknhfbkphoceaaGreatDoorUnU
import Derived.Laws.StructEq
namespace Go.Proofs.YtiknhfbkphoceaaGreatDoor
open Go.RowKit

theorem eqFault (c a d b : Int) (w : World) : (Op.equalIn 10000 28 (.agg #[.int .i64 c, .int .i64 a]) (.agg #[.int .i64 d, .int .i64 b])).run Tryz.prog w = .ok (c == d && a == b) w := by
  have hS : Tryz.prog.underlying 28 = some (.struct (Tryz.prog.fieldsOf 28)) := by kernel_rfl
  rw [show (10000 : Nat) = 9999 + 1 from rfl, run_equalIn_agg w 9999 28 _ _ hS (by kernel_rfl)]
  simp only [Program.fieldsOf, Tryz.underlying28]
  have u3 := Tryz.underlying3
  have a3 := Tryz.isAgg3
  have z3 := Tryz.sizeOf3
  go_simp
  by_cases h0 : c = d <;> by_cases h1 : a = b <;> simp [h0, h1]
/-- Is a unit's answer its own where its code is 0? -/
theorem unit_pair {gs : List Glob} {fs : List FunU} (h : (unitF gs fs).1 = 0) : unitF gs fs = (0, 0) := (unit_ok h).all
theorem ret_pair {p : Int × Int} {c a : Int} (h : p = (c, a)) : Ending.returned (.agg #[.int .i64 c, .int .i64 a]) = .returned (.agg #[.int .i64 p.1, .int .i64 p.2]) := by rw [h]
theorem clash_unit {gs : List Glob} {fs : List FunU} {k c a : Int} (h : unitF gs fs = (c, a)) (hc : c ≠ 0) : clashF gs fs k = (c, a) := by
  unfold clashF; rw [if_pos (by rw [h]; exact hc), h]
theorem clash_far {gs : List Glob} {fs : List FunU} {k a : Int} (h : unitF gs fs = (0, a)) (hc : ¬ (0 ≤ k ∧ k < fs.length)) : clashF gs fs k = (3, -1) := by
  unfold clashF; rw [if_neg (by rw [h]; simp), if_pos hc]
theorem clash_phis {gs : List Glob} {fs : List FunU} {k a : Int} {f : FunU} (h : unitF gs fs = (0, a)) (hc : 0 ≤ k ∧ k < fs.length) (hf : fs[k.toNat]? = some f) (hp : (f.blocks.any fun b => decide (0 < b.phis.length)) = true) : clashF gs fs k = (11, k) := by
  unfold clashF; rw [if_neg (by rw [h]; simp), if_neg (by simpa using hc), if_pos (by rw [List.getD_eq_getElem?_getD, hf]; exact hp)]
theorem clash_none {gs : List Glob} {fs : List FunU} {k a : Int} {f : FunU} (h : unitF gs fs = (0, a)) (hc : 0 ≤ k ∧ k < fs.length) (hf : fs[k.toNat]? = some f) (hp : (f.blocks.any fun b => decide (0 < b.phis.length)) = false) : clashF gs fs k = (0, 0) := by
  unfold clashF; rw [if_neg (by rw [h]; simp), if_neg (by simpa using hc), if_neg (by rw [List.getD_eq_getElem?_getD, hf]; simpa using hp)]
/-- A unit in memory. -/
structure UnitAt (w : World) (B : Nat) (gv fv : Value) (gs : List Glob) (fs : List FunU) : Prop where
  globs : GlobsAt w B gv gs
  funs : FunsAt w B fv fs
  gok : ∀ g ∈ gs, g.name.size ≤ 9223372036854775807 ∧ I64 g.size
  fok : ∀ f ∈ fs, f.ok
  ways : Ways w
  lt : 0 < B
  le : B ≤ w.heap.size
theorem UnitAt.move {w w' : World} {B B' : Nat} {gv fv : Value} {gs : List Glob} {fs : List FunU} (h : UnitAt w B gv fv gs fs) (hb : Below B w w') (hB : B ≤ B') (hz : B' ≤ w'.heap.size) : UnitAt w' B' gv fv gs fs :=
  ⟨h.globs.move hB (kept_of hb (Nat.le_refl _)), h.funs.move hB (kept_of hb (Nat.le_refl _)), h.gok, h.fok, h.ways.below hb h.lt (Nat.le_trans h.le hb.size), by have := h.lt; omega, hz⟩
theorem UnitAt.later {w w' : World} {B : Nat} {gv fv : Value} {gs : List Glob} {fs : List FunU} (h : UnitAt w B gv fv gs fs) (hb : Below B w w') : UnitAt w' w'.heap.size gv fv gs fs :=
  h.move hb (Nat.le_trans h.le hb.size) (Nat.le_refl _)
/-- A function of a unit, in memory. -/
theorem FunsAt.one {w : World} {B : Nat} {A : Option Addr} {l c : Nat} {fs : List FunU} (h : FunsAt w B (.slice A l c) fs) {k : Nat} (hk : k < l) : ∃ b off f bA bc, A = some ⟨b, off, none⟩ ∧ b < B ∧ fs[k]? = some f ∧
    w.cell? ⟨b, off + k * 4, none⟩ = some (.string f.name) ∧ w.cell? ⟨b, off + k * 4 + 1, none⟩ = some (.int .i64 f.params) ∧ w.cell? ⟨b, off + k * 4 + 2, none⟩ = some (.int .i64 f.regs) ∧ w.cell? ⟨b, off + k * 4 + 3, none⟩ = some (.slice bA f.blocks.length bc) ∧ BlksAt w B (.slice bA f.blocks.length bc) f.blocks := by
  have hl := SlAt.len h
  obtain ⟨f, hf⟩ : ∃ f, fs[k]? = some f := ⟨fs[k], List.getElem?_eq_getElem _⟩
  obtain ⟨b, off, e, hb, us, ⟨bv, rfl, hbv⟩, hc⟩ := SlAt.at h hf
  obtain ⟨bA, bc, rfl, _⟩ := SlAt.form hbv
  exact ⟨b, off, f, bA, bc, e, hb, hf, by simpa using hc 0 _ rfl, hc 1 _ rfl, hc 2 _ rfl, hc 3 _ rfl, hbv⟩
/-- A block of a function, in memory. -/
theorem BlksAt.one {w : World} {B : Nat} {A : Option Addr} {l c : Nat} {bs : List BlkU} (h : BlksAt w B (.slice A l c) bs) {k : Nat} (hk : k < l) : ∃ b off x pA pc lA lc tA tc, A = some ⟨b, off, none⟩ ∧ b < B ∧ bs[k]? = some x ∧
    w.cell? ⟨b, off + k * 6, none⟩ = some (.slice pA x.phis.length pc) ∧ w.cell? ⟨b, off + k * 6 + 1, none⟩ = some (.slice lA x.list.length lc) ∧ w.cell? ⟨b, off + k * 6 + 2, none⟩ = some (.int .i64 x.kind) ∧ w.cell? ⟨b, off + k * 6 + 3, none⟩ = some (.bool x.on.reg) ∧
    w.cell? ⟨b, off + k * 6 + 4, none⟩ = some (.int .i64 x.on.n) ∧ w.cell? ⟨b, off + k * 6 + 5, none⟩ = some (.slice tA x.to.length tc) ∧ PhisAt w B (.slice pA x.phis.length pc) x.phis ∧ InssAt w B (.slice lA x.list.length lc) x.list ∧ IntsAt w B (.slice tA x.to.length tc) x.to := by
  have hl := SlAt.len h
  obtain ⟨x, hx⟩ : ∃ x, bs[k]? = some x := ⟨bs[k], List.getElem?_eq_getElem _⟩
  obtain ⟨b, off, e, hb, us, ⟨pv, lv, tv, rfl, h1, h2, h3⟩, hc⟩ := SlAt.at h hx
  obtain ⟨pA, pc, rfl, _⟩ := SlAt.form h1
  obtain ⟨lA, lc, rfl, _⟩ := SlAt.form h2
  have h3' := h3
  obtain ⟨tA, tc, rfl, _⟩ := h3
  exact ⟨b, off, x, pA, pc, lA, lc, tA, tc, e, hb, hx, by simpa using hc 0 _ rfl, hc 1 _ rfl, hc 2 _ rfl, hc 3 _ rfl, hc 4 _ rfl, hc 5 _ rfl, h1, h2, h3'⟩
/-- An instruction of a block, in memory. -/
theorem InssAt.one {w : World} {B : Nat} {A : Option Addr} {l c : Nat} {xs : List InsU} (h : InssAt w B (.slice A l c) xs) {k : Nat} (hk : k < l) : ∃ b off x aA ac, A = some ⟨b, off, none⟩ ∧ b < B ∧ xs[k]? = some x ∧
    w.cell? ⟨b, off + k * 8, none⟩ = some (.int .i64 x.op) ∧ w.cell? ⟨b, off + k * 8 + 1, none⟩ = some (.int .i64 x.dst) ∧ w.cell? ⟨b, off + k * 8 + 2, none⟩ = some (.bool x.a.reg) ∧ w.cell? ⟨b, off + k * 8 + 3, none⟩ = some (.int .i64 x.a.n) ∧
    w.cell? ⟨b, off + k * 8 + 4, none⟩ = some (.bool x.b.reg) ∧ w.cell? ⟨b, off + k * 8 + 5, none⟩ = some (.int .i64 x.b.n) ∧ w.cell? ⟨b, off + k * 8 + 6, none⟩ = some (.int .i64 x.fn) ∧ w.cell? ⟨b, off + k * 8 + 7, none⟩ = some (.slice aA x.args.length ac) ∧ OpdsAt w B (.slice aA x.args.length ac) x.args := by
  have hl := SlAt.len h
  obtain ⟨x, hx⟩ : ∃ x, xs[k]? = some x := ⟨xs[k], List.getElem?_eq_getElem _⟩
  obtain ⟨b, off, e, hb, us, ⟨av, rfl, h1⟩, hc⟩ := SlAt.at h hx
  obtain ⟨aA, ac, rfl, _⟩ := SlAt.form h1
  exact ⟨b, off, x, aA, ac, e, hb, hx, by simpa using hc 0 _ rfl, hc 1 _ rfl, hc 2 _ rfl, hc 3 _ rfl, hc 4 _ rfl, hc 5 _ rfl, hc 6 _ rfl, hc 7 _ rfl, h1⟩
def CFaultPost (w : World) (p : Int × Int) (e : Ending) (w' : World) : Prop := e = .returned (.agg #[.int .i64 p.1, .int .i64 p.2]) ∧ Below w.heap.size w w'
set_option maxRecDepth 100000 in
set_option maxHeartbeats 2000000 in
theorem CFault_any (gv fv : Value) (gs : List Glob) (fs : List FunU) (k : Int) (w : World) (hk : I64 k) (hu : UnitAt w w.heap.size gv fv gs fs) :
    Calls Tryz.prog 27 #[.agg #[gv, fv], .int .i64 k] w (CFaultPost w (clashF gs fs k)) := by
  have HU := Lib.hid hu
  obtain ⟨A, c, rfl, hl1, hl2⟩ := SlAt.form hu.funs
  obtain ⟨l, hl⟩ : ∃ l, fs.length = l := ⟨_, rfl⟩
  rw [hl] at HU hl1 ⊢
  have Hl := Lib.hid hl
  have HP : Hid (∀ e w', e = .returned (.agg #[.int .i64 (clashF gs fs k).1, .int .i64 (clashF gs fs k).2]) ∧ Below w.heap.size w w' → CFaultPost w (clashF gs fs k) e w') := Lib.hid fun _ _ h => h
  generalize CFaultPost w (clashF gs fs k) = PE at *
  have Hk : Hid (I64 k) := Lib.hid hk
  have HW0 : Hid (Below w.heap.size w ((w.alloc (.cells #[gv, .slice A l c] 25)).alloc (.cells #[.int .i64 0, .int .i64 0] 28))) := Lib.hid (((Below.refl _ _).alloc (Nat.le_refl _) _).alloc (by simp) _)
  have HC0 : Hid (Blk ((w.alloc (.cells #[gv, .slice A l c] 25)).alloc (.cells #[.int .i64 0, .int .i64 0] 28)) w.heap.size 25 #[gv, .slice A l c]) := Lib.hid ((Blk.new w _ _).alloc _)
  have HX0 : Hid (Blk ((w.alloc (.cells #[gv, .slice A l c] 25)).alloc (.cells #[.int .i64 0, .int .i64 0] 28)) (w.heap.size + 1) 28 #[.int .i64 0, .int .i64 0]) := Lib.hid (by simpa using Blk.new (w.alloc (.cells #[gv, .slice A l c] 25)) 28 #[.int .i64 0, .int .i64 0])
  clear hu hk hl
  go_enter Tryz.func27, Tryz.ntmps27
  go_upto_region 1 with fail
  generalize (w.alloc (.cells #[gv, .slice A l c] 25)).alloc (.cells #[.int .i64 0, .int .i64 0] 28) = W0 at *
  generalize hg1 : w.heap.size + 1 = g1 at *
  have c0 := HC0.out.cell 0
  have c1 := HC0.out.cell 1
  have HU0 := Lib.hid (HU.out.later HW0.out)
  go_wp2_with fail
  refine (Check_any gv _ gs fs W0 HU0.out.globs HU0.out.funs HU0.out.gok HU0.out.fok HU0.out.ways).mono ?_
  rintro e W1 ⟨rfl, hb1⟩
  obtain ⟨uc, ua, hun⟩ : ∃ uc ua, unitF gs fs = (uc, ua) := ⟨_, _, rfl⟩
  rw [hun]
  have Hun := Lib.hid hun
  clear hun
  have HB1 : Hid (Below w.heap.size w W1) := Lib.hid (HW0.out.trans (hb1.mono HW0.out.size))
  have HC1 := Lib.hid (HC0.out.below hb1 HC0.out.lt)
  have HX1 := Lib.hid (HX0.out.below hb1 HX0.out.lt)
  clear hb1 c0 c1 HU0 HC0 HX0 HW0
  have x0 := HX1.out.cell 0
  have x1 := HX1.out.cell 1
  have hfz := HX1.out.frozen 0
  have hfz1 := HX1.out.frozen 1
  have hgl := HX1.out.lt
  have hg0 := HC1.out.lt
  have hul : w.heap.size ≠ g1 := by omega
  have Hlg : Hid (w.heap.size ≤ g1) := Lib.hid (by omega)
  clear hg1
  by_cases h0 : uc = 0
  · subst h0
    obtain rfl : ua = 0 := by
      have := unit_pair (gs := gs) (fs := fs) (by rw [Hun.out])
      rw [Hun.out] at this
      injection this
    have heq := fun W => eqFault 0 0 0 0 W
    have c1 := HC1.out.cell 1
    have HW := Lib.hid (Within_any k 0 ((l : Int) - 1))
    have h1 := Hk.out.1
    have h2 := Hk.out.2
    have hl63 : (l : Int) ≤ 9223372036854775807 := by omega
    go_wp2_with fail
    refine (HW.out _).mono ?_
    rintro e w2 ⟨rfl, rfl⟩
    by_cases hin : 0 ≤ k ∧ k ≤ (l : Int) - 1
    · rw [decide_eq_true hin]
      obtain ⟨hk0, hk1⟩ := hin
      obtain ⟨n, rfl⟩ : ∃ n : Nat, k = (n : Int) := ⟨k.toNat, by omega⟩
      have hnl : n < l := by omega
      have Hn : Hid (0 ≤ (n : Int) ∧ (n : Int) < fs.length) := Lib.hid ⟨hk0, by rw [Hl.out]; omega⟩
      have HU1 := Lib.hid (HU.out.move HB1.out (Nat.le_refl _) HB1.out.size)
      obtain ⟨fb, fo, f, bA, bc, rfl, hfb, hfn, _, _, _, f3, hbl⟩ := FunsAt.one HU1.out.funs hnl
      have Hfn : Hid (fs[(n : Int).toNat]? = some f) := Lib.hid (by simpa using hfn)
      have HBL := Lib.hid hbl
      have hn1 : (n : Int) < (l : Int) := by omega
      have hfb1 : fb < W1.heap.size := Nat.lt_of_lt_of_le hfb HB1.out.size
      have HBA : Hid (Below w.heap.size w (W1.alloc (.cells #[.int .i64 0, .int .i64 0] 28))) := Lib.hid (HB1.out.alloc HB1.out.size _)
      clear hfn hbl hk0 hk1
      go_wp2_with fail
      refine (ContainsB_any 49 _ f.blocks (fun b => decide (0 < b.phis.length)) _ (HBL.out.move HBA.out.size (kept_of ((Below.refl _ _).alloc HB1.out.size _) (Nat.le_refl _))) (fun a W => MuLone.run_callFunc_enter Tryz.func49 (by kernel_rfl) rfl a W) (fun us g V _ _ hus => ?_)).mono ?_
      · obtain ⟨pv, lv, tv, rfl, h1, h2, h3⟩ := hus
        obtain ⟨pA, pc, rfl, _⟩ := SlAt.form h1
        obtain ⟨lA, lc, rfl, _⟩ := SlAt.form h2
        obtain ⟨tA, tc, rfl, _⟩ := h3
        exact hasPhis_any pA lA tA _ pc _ lc _ tc g.kind g.on.reg g.on.n V
      rintro e w3 ⟨rfl, hb3⟩
      have HB3 : Hid (Below w.heap.size w w3) := Lib.hid (HBA.out.trans (hb3.mono HBA.out.size))
      have HX3 := Lib.hid ((HX1.out.alloc _).below hb3 (HX1.out.alloc _).lt)
      clear hb3 x0 x1 hfz hfz1
      have x0 := HX3.out.cell 0
      have x1 := HX3.out.cell 1
      have hfz := HX3.out.frozen 0
      have hfz1 := HX3.out.frozen 1
      cases hp : f.blocks.any (fun b => decide (0 < b.phis.length)) with
      | true =>
        have HR : Hid (clashF gs fs (n : Int) = (11, (n : Int))) := Lib.hid (clash_phis Hun.out Hn.out Hfn.out hp)
        clear hp
        go_wp2_with fail
        refine (Fault_any 11 (n : Int) _).mono ?_
        rintro e w4 ⟨rfl, hb4⟩
        have HB4 : Hid (Below w.heap.size w w4) := Lib.hid (HB3.out.trans (hb4.mono HB3.out.size))
        have HX4 := Lib.hid (HX3.out.below hb4 HX3.out.lt)
        clear hb4 x0 x1 hfz hfz1
        have x0 := HX4.out.cell 0
        have x1 := HX4.out.cell 1
        have hfz := HX4.out.frozen 0
        have hfz1 := HX4.out.frozen 1
        go_wp2_with fail
        exact end_cell rfl rfl (HX4.out.set2 _ _) Tryz.underlying28 rfl (by kernel_rfl) rfl (HP.out _ _ ⟨ret_pair HR.out, (HB4.out.setCell Hlg.out _).setCell Hlg.out _⟩)
      | false =>
        have HR : Hid (clashF gs fs (n : Int) = (0, 0)) := Lib.hid (clash_none Hun.out Hn.out Hfn.out hp)
        clear hp
        go_wp2_with fail
        exact end_cell rfl rfl (HX3.out.set2 _ _) Tryz.underlying28 rfl (by kernel_rfl) rfl (HP.out _ _ ⟨ret_pair HR.out, (HB3.out.setCell Hlg.out _).setCell Hlg.out _⟩)
    · rw [decide_eq_false hin]
      have HR : Hid (clashF gs fs k = (3, -1)) := Lib.hid (clash_far Hun.out (by rw [Hl.out]; omega))
      clear c1 heq
      go_wp2_with fail
      refine (Fault_any 3 (-1) _).mono ?_
      rintro e w3 ⟨rfl, hb3⟩
      have HB3 : Hid (Below w.heap.size w w3) := Lib.hid (((HB1.out.alloc HB1.out.size _)).trans (hb3.mono (HB1.out.alloc HB1.out.size _).size))
      have HX3 := Lib.hid ((HX1.out.alloc _).below hb3 (HX1.out.alloc _).lt)
      clear hb3 x0 x1 hfz hfz1
      have x0 := HX3.out.cell 0
      have x1 := HX3.out.cell 1
      have hfz := HX3.out.frozen 0
      have hfz1 := HX3.out.frozen 1
      go_wp2_with fail
      exact end_cell rfl rfl (HX3.out.set2 _ _) Tryz.underlying28 rfl (by kernel_rfl) rfl (HP.out _ _ ⟨ret_pair HR.out, (HB3.out.setCell Hlg.out _).setCell Hlg.out _⟩)
  · have HR : Hid (clashF gs fs k = (uc, ua)) := Lib.hid (clash_unit Hun.out h0)
    have heq := fun W => eqFault uc ua 0 0 W
    have hub : (uc == 0) = false := by simpa using h0
    clear h0
    go_wp2_with fail
    exact end_cell rfl rfl ((HX1.out.set2 _ _).alloc _) Tryz.underlying28 rfl (by kernel_rfl) rfl (HP.out _ _ ⟨ret_pair HR.out, ((HB1.out.setCell Hlg.out _).setCell Hlg.out _).alloc (by simp; exact HB1.out.size) _⟩)
set_option maxRecDepth 100000 in
set_option maxHeartbeats 2000000 in
theorem RFault_any (gv fv : Value) (gs : List Glob) (fs : List FunU) (k : Int) (w : World) (hk : I64 k) (hu : UnitAt w w.heap.size gv fv gs fs) :
    Calls Tryz.prog 42 #[.agg #[gv, fv], .int .i64 k] w (CFaultPost w (clashF gs fs k)) := by
  have HU := Lib.hid hu
  obtain ⟨A, c, rfl, hl1, hl2⟩ := SlAt.form hu.funs
  obtain ⟨l, hl⟩ : ∃ l, fs.length = l := ⟨_, rfl⟩
  rw [hl] at HU hl1 ⊢
  have Hl := Lib.hid hl
  have HP : Hid (∀ e w', e = .returned (.agg #[.int .i64 (clashF gs fs k).1, .int .i64 (clashF gs fs k).2]) ∧ Below w.heap.size w w' → CFaultPost w (clashF gs fs k) e w') := Lib.hid fun _ _ h => h
  generalize CFaultPost w (clashF gs fs k) = PE at *
  have Hk : Hid (I64 k) := Lib.hid hk
  have HW0 : Hid (Below w.heap.size w ((w.alloc (.cells #[gv, .slice A l c] 25)).alloc (.cells #[.int .i64 0, .int .i64 0] 28))) := Lib.hid (((Below.refl _ _).alloc (Nat.le_refl _) _).alloc (by simp) _)
  have HC0 : Hid (Blk ((w.alloc (.cells #[gv, .slice A l c] 25)).alloc (.cells #[.int .i64 0, .int .i64 0] 28)) w.heap.size 25 #[gv, .slice A l c]) := Lib.hid ((Blk.new w _ _).alloc _)
  have HX0 : Hid (Blk ((w.alloc (.cells #[gv, .slice A l c] 25)).alloc (.cells #[.int .i64 0, .int .i64 0] 28)) (w.heap.size + 1) 28 #[.int .i64 0, .int .i64 0]) := Lib.hid (by simpa using Blk.new (w.alloc (.cells #[gv, .slice A l c] 25)) 28 #[.int .i64 0, .int .i64 0])
  clear hu hk hl
  go_enter Tryz.func42, Tryz.ntmps42
  go_upto_region 1 with fail
  generalize (w.alloc (.cells #[gv, .slice A l c] 25)).alloc (.cells #[.int .i64 0, .int .i64 0] 28) = W0 at *
  generalize hg1 : w.heap.size + 1 = g1 at *
  have c0 := HC0.out.cell 0
  have c1 := HC0.out.cell 1
  have HU0 := Lib.hid (HU.out.later HW0.out)
  go_wp2_with fail
  refine (Check_any gv _ gs fs W0 HU0.out.globs HU0.out.funs HU0.out.gok HU0.out.fok HU0.out.ways).mono ?_
  rintro e W1 ⟨rfl, hb1⟩
  obtain ⟨uc, ua, hun⟩ : ∃ uc ua, unitF gs fs = (uc, ua) := ⟨_, _, rfl⟩
  rw [hun]
  have Hun := Lib.hid hun
  clear hun
  have HB1 : Hid (Below w.heap.size w W1) := Lib.hid (HW0.out.trans (hb1.mono HW0.out.size))
  have HC1 := Lib.hid (HC0.out.below hb1 HC0.out.lt)
  have HX1 := Lib.hid (HX0.out.below hb1 HX0.out.lt)
  clear hb1 c0 c1 HU0 HC0 HX0 HW0
  have x0 := HX1.out.cell 0
  have x1 := HX1.out.cell 1
  have hfz := HX1.out.frozen 0
  have hfz1 := HX1.out.frozen 1
  have hgl := HX1.out.lt
  have hg0 := HC1.out.lt
  have hul : w.heap.size ≠ g1 := by omega
  have Hlg : Hid (w.heap.size ≤ g1) := Lib.hid (by omega)
  clear hg1
  by_cases h0 : uc = 0
  · subst h0
    obtain rfl : ua = 0 := by
      have := unit_pair (gs := gs) (fs := fs) (by rw [Hun.out])
      rw [Hun.out] at this
      injection this
    have c1 := HC1.out.cell 1
    have h1 := Hk.out.1
    have h2 := Hk.out.2
    have hl63 : (l : Int) ≤ 9223372036854775807 := by omega
    by_cases hin : 0 ≤ k ∧ k < (l : Int)
    · obtain ⟨hk0, hk1⟩ := hin
      obtain ⟨n, rfl⟩ : ∃ n : Nat, k = (n : Int) := ⟨k.toNat, by omega⟩
      have hnl : n < l := by omega
      have hk2 : ¬ ((n : Int) < 0) := by omega
      have Hn : Hid (0 ≤ (n : Int) ∧ (n : Int) < fs.length) := Lib.hid ⟨hk0, by rw [Hl.out]; omega⟩
      have HU1 := Lib.hid (HU.out.move HB1.out (Nat.le_refl _) HB1.out.size)
      obtain ⟨fb, fo, f, bA, bc, rfl, hfb, hfn, _, _, _, f3, hbl⟩ := FunsAt.one HU1.out.funs hnl
      have Hfn : Hid (fs[(n : Int).toNat]? = some f) := Lib.hid (by simpa using hfn)
      have HBL := Lib.hid hbl
      have hfb1 : fb < W1.heap.size := Nat.lt_of_lt_of_le hfb HB1.out.size
      obtain ⟨bl, hbl2⟩ : ∃ bl, f.blocks.length = bl := ⟨_, rfl⟩
      rw [hbl2] at f3 HBL
      have HBLn := Lib.hid hbl2
      have hbl63 : bl ≤ 9223372036854775807 := by
        obtain ⟨_, _, e, h1, h2⟩ := SlAt.form HBL.out
        cases e
        omega
      clear hfn hbl hbl2
      go_wp2_with fail
      go_loopw [6] (fun i wr => ∃ j : Nat, j ≤ bl ∧ i = .int .i64 j ∧ wr = W1.alloc (.cells #[.int .i64 0, .int .i64 0] 28) ∧ Hid (∀ q b, q < j → f.blocks[q]? = some b → b.phis.length = 0)) (fun i _ => bl - (intOf i).toNat)
      case atStart => exact ⟨0, Nat.zero_le _, rfl, rfl, Lib.hid (fun q b h => absurd h (Nat.not_lt_zero q))⟩
      case round =>
        obtain ⟨j, hj, rfl, rfl, HN⟩ := hrel
        by_cases hlt : j < bl
        · have hj1 : (j : Int) < (bl : Int) := by omega
          have hj0 : (0 : Int) ≤ (j : Int) := Int.natCast_nonneg j
          obtain ⟨bb, bo, b, pA, pc, _, _, _, _, rfl, hbb, hbj, p0, _⟩ := BlksAt.one HBL.out hlt
          have Hbj := Lib.hid hbj
          have hbb1 : bb < W1.heap.size := Nat.lt_of_lt_of_le hbb HB1.out.size
          clear hbj
          by_cases hp : 0 < b.phis.length
          · have HR : Hid (clashF gs fs (n : Int) = (11, (n : Int))) := Lib.hid (clash_phis Hun.out Hn.out Hfn.out (List.any_eq_true.2 ⟨b, List.mem_of_getElem? Hbj.out, decide_eq_true hp⟩))
            have hpi : (0 : Int) < (b.phis.length : Int) := by omega
            clear hp
            go_wp2_with fail
            exact end_cell rfl rfl ((HX1.out.set2 _ _).alloc _) Tryz.underlying28 rfl (by kernel_rfl) rfl (HP.out _ _ ⟨ret_pair HR.out, ((HB1.out.setCell Hlg.out _).setCell Hlg.out _).alloc (by simp; exact HB1.out.size) _⟩)
          · have hpi : ¬ (0 : Int) < (b.phis.length : Int) := by omega
            have HN2 : Hid (∀ q b, q < j + 1 → f.blocks[q]? = some b → b.phis.length = 0) := Lib.hid (fun q b' hq hb' => by
              rcases Nat.lt_or_ge q j with h3 | h3
              · exact HN.out q b' h3 hb'
              · obtain rfl : q = j := by omega
                rw [Hbj.out] at hb'
                cases hb'
                omega)
            clear hp
            go_wp2_with fail
            go_roundw
            case rel => exact ⟨j + 1, by omega, by go_num, (by trivial), HN2⟩
            case measure => simp [intOf]; omega
        · have HR : Hid (clashF gs fs (n : Int) = (0, 0)) := Lib.hid (clash_none Hun.out Hn.out Hfn.out (by
            rw [List.any_eq_false]
            intro b hb
            obtain ⟨q, hq⟩ := List.getElem?_of_mem hb
            have hql := (List.getElem?_eq_some_iff.1 hq).1
            rw [HBLn.out] at hql
            have := HN.out q b (by omega) hq
            rw [decide_eq_true_eq]
            omega))
          have hj1 : ¬ (j : Int) < (bl : Int) := by omega
          go_wp2_with fail
          exact end_cell rfl rfl ((HX1.out.set2 _ _).alloc _) Tryz.underlying28 rfl (by kernel_rfl) rfl (HP.out _ _ ⟨ret_pair HR.out, ((HB1.out.setCell Hlg.out _).setCell Hlg.out _).alloc (by simp; exact HB1.out.size) _⟩)
    · have HR : Hid (clashF gs fs k = (3, -1)) := Lib.hid (clash_far Hun.out (by rw [Hl.out]; omega))
      by_cases hk0 : k < 0
      · clear hin
        go_wp2_with fail
        exact end_cell rfl rfl ((HX1.out.set2 _ _).alloc _) Tryz.underlying28 rfl (by kernel_rfl) rfl (HP.out _ _ ⟨ret_pair HR.out, ((HB1.out.setCell Hlg.out _).setCell Hlg.out _).alloc (by simp; exact HB1.out.size) _⟩)
      · have hk1 : ¬ k < (l : Int) := by omega
        clear hin
        go_wp2_with fail
        exact end_cell rfl rfl ((HX1.out.set2 _ _).alloc _) Tryz.underlying28 rfl (by kernel_rfl) rfl (HP.out _ _ ⟨ret_pair HR.out, ((HB1.out.setCell Hlg.out _).setCell Hlg.out _).alloc (by simp; exact HB1.out.size) _⟩)
  · have HR : Hid (clashF gs fs k = (uc, ua)) := Lib.hid (clash_unit Hun.out h0)
    have hub : (uc != 0) = true := by simpa using h0
    clear h0
    go_wp2_with fail
    exact end_cell rfl rfl ((HX1.out.set2 _ _).alloc _) Tryz.underlying28 rfl (by kernel_rfl) rfl (HP.out _ _ ⟨ret_pair HR.out, ((HB1.out.setCell Hlg.out _).setCell Hlg.out _).alloc (by simp; exact HB1.out.size) _⟩)
end Go.Proofs.YtiknhfbkphoceaaGreatDoor
