/-
  clash.Weights.
  Conditions: the unit's numbers are Go's.
-/
import Derived.Test.YtiknhfbkphoceaaGreatDoorUnW
import Derived.Test.YtiknhfbkphoceaaGreatDoorUnY
import Derived.BigRegion
import Derived.Laws.EntriesVeiled
import Derived.Deep.DeepCutAuto
namespace Go.Proofs.YtiknhfbkphoceaaGreatDoor
open Go.RowKit
attribute [local go_sem] Oper.semAt_some

theorem vals_stops (n : Nat) (hn : 1 ≤ n) (Bn g n₀ : Nat) (x : InsU) (hop : 1 ≤ x.op ∧ x.op ≤ 22) (xA : Option Addr) (xl xc : Nat) (w : World) (hBg : Bn ≠ g) (hng : n₀ ≤ g) (hgW : g < w.heap.size)
    (hX : Blk w Bn 69 #[.int .i64 x.op, .int .i64 x.dst, .bool x.a.reg, .int .i64 x.a.n, .bool x.b.reg, .int .i64 x.b.n, .int .i64 x.fn, .slice xA xl xc]) (hA : OpdsAt w n₀ (.slice xA xl xc) x.args) :
    SeqStopsK Fence.wide n Tryz.prog 54 #[.pointer (some ⟨Bn, 0, none⟩)] (fun v : { v : Opd // v ∈ valsU x } => #[.agg #[.bool v.1.reg, .int .i64 v.1.n]]) (CellsBut g) (fun ys => ys.map Subtype.val = valsU x) (fun _ => True) (valsU x).length w := fun l J Jx W hW hJ _ hY h0 => by
  refine (vals1_in n hn l Bn g n₀ x hop xA xl xc (fun pre W => ∃ pre' : List { v : Opd // v ∈ valsU x }, pre'.map Subtype.val = pre ∧ J pre' W) (fun pre W => ∃ pre' : List { v : Opd // v ∈ valsU x }, pre'.map Subtype.val = pre ∧ Jx pre' W) W hBg hng (Nat.lt_of_lt_of_le hgW hW.size) (hX.below hW hX.lt) (hA.move (Nat.le_refl _) (kept_of hW (by omega)))
    (fun s A B row hs hg hr => by obtain ⟨p, e, h⟩ := hs; exact ⟨p, e, hJ p A B row h hg hr⟩) ?_ ⟨[], rfl, h0⟩).mono ?_
  · rintro pre v W1 hv ⟨pre', rfl, hj⟩ hl
    refine (hY pre' ⟨v, hv⟩ W1 hj (by simpa using hl)).mono ?_
    rintro e w' (⟨h1, h2, h3⟩ | ⟨h1, h2⟩)
    · exact .inl ⟨h1, ⟨_, by simp, h2⟩, h3⟩
    · exact .inr ⟨h1, ⟨_, by simp, h2⟩⟩
  · rintro e W' ⟨he, ⟨ys, rfl, ys', h1, h2⟩ | ⟨pre, _, pre', _, h2⟩⟩
    · exact ⟨he, .inl ⟨ys', h1, h2⟩⟩
    · exact ⟨he, .inr ⟨pre', trivial, h2⟩⟩
theorem occBs_part {bs : List BlkU} {j : Nat} {b : BlkU} (h : bs[j]? = some b) : (occBs (bs.take j)).length + (occB b).length ≤ (occBs bs).length := by
  have e : occBs bs = occBs (bs.take (j + 1)) ++ occBs (bs.drop (j + 1)) := by
    unfold occBs
    rw [← List.flatten_append, ← List.map_append, List.take_append_drop]
  rw [e, occBs_snoc h]
  simp only [List.length_append]
  omega
theorem occIs_part {xs : List InsU} {j : Nat} {x : InsU} (h : xs[j]? = some x) : (occIs (xs.take j)).length + (occI x).length ≤ (occIs xs).length := by
  have e : occIs xs = occIs (xs.take (j + 1)) ++ occIs (xs.drop (j + 1)) := by
    unfold occIs
    rw [← List.flatten_append, ← List.map_append, List.take_append_drop]
  rw [e, occIs_snoc h]
  simp only [List.length_append]
  omega
/-- Numbers that a block holds. -/
def intsC (xs : List Int) : Array Value := (xs.map (Value.int .i64)).toArray
theorem intsC_at {xs : List Int} {k : Nat} {x : Int} (h : xs[k]? = some x) : (intsC xs)[k]? = some (.int .i64 x) := by
  unfold intsC
  simp [h]
theorem intsC_set (xs : List Int) (k : Nat) (x : Int) : (intsC xs).setIfInBounds k (.int .i64 x) = intsC (xs.set k x) := by
  unfold intsC
  simp
theorem made_ints (n : Nat) : madeCells #[.int .i64 0] n = intsC (List.replicate n 0) := by
  unfold intsC
  apply Array.toList_inj.1
  simp [madeCells, Nat.mod_one, List.map_const']
theorem own_of_blk {w : World} {base g : Nat} {xs : List Int} (h : Blk w g 3 (intsC xs)) (hb : base ≤ g) (hl : xs.length ≤ 140737488351232) : OwnInts w base (.slice (some ⟨g, 0, none⟩) xs.length xs.length) xs :=
  ⟨by simp, .inr ⟨g, xs.length, intsC xs, rfl, hb, h, Nat.le_refl _, by unfold maxLen; omega, by simp [intsC], by simp [intsC, List.take_of_length_le]⟩⟩
set_option maxRecDepth 100000 in
set_option maxHeartbeats 1000000 in
theorem Count_any (v : Opd) (go gb n : Nat) (xs : List Int) (w : World) (hb : Blk w gb 26 #[.slice (some ⟨go, 0, none⟩) n n]) (ho : Blk w go 3 (intsC (tally n xs))) (hx : xs.length ≤ 5000) (hv : v.reg = true → 0 ≤ v.n ∧ v.n < n) :
    Calls Tryz.prog 33 #[.agg #[.bool v.reg, .int .i64 v.n], .pointer (some ⟨gb, 0, none⟩)] w fun e w' => e = .returned (.tuple #[]) ∧ BelowBut go w.heap.size w w' ∧ Blk w' go 3 (intsC (tally n (xs ++ occV v))) := by
  obtain ⟨r, m⟩ := v
  have hgb := hb.lt
  have hgo := ho.lt
  have c0 := hb.cell 0
  have HO := Lib.hid ho
  cases r with
  | false =>
    have HE : Hid (xs ++ occV ⟨false, m⟩ = xs) := Lib.hid (by unfold occV; simp)
    clear hv hx hb ho
    go_enter Tryz.func33, Tryz.ntmps33
    go_wp2_with fail
    go_end0
    exact ⟨rfl, but_of ((Below.refl _ _).alloc (Nat.le_refl _) _), by rw [HE.out]; exact HO.out.alloc _⟩
  | true =>
    obtain ⟨h0, h1⟩ := hv rfl
    dsimp only at h0 h1
    obtain ⟨k, rfl⟩ : ∃ k : Nat, m = (k : Int) := ⟨m.toNat, by omega⟩
    have hk : k < n := by omega
    have hc := (ho.cell k).trans (intsC_at (tally_at hk (l := xs)))
    have hfz := ho.frozen k
    have hcn : (xs.count (k : Int) : Int) ≤ 5000 := by
      have := List.count_le_length (a := (k : Int)) (l := xs)
      omega
    have hc0 : (0 : Int) ≤ (xs.count (k : Int) : Int) := Int.natCast_nonneg _
    have HE : Hid ((tally n xs).set k ((xs.count (k : Int) : Int) + 1) = tally n (xs ++ occV ⟨true, (k : Int)⟩)) := Lib.hid (by rw [tally_snoc hk]; rfl)
    have hne : go ≠ w.heap.size := by omega
    generalize (xs.count (k : Int) : Int) = q at *
    clear hv hx hb ho
    go_enter Tryz.func33, Tryz.ntmps33
    go_wp2_with fail
    go_end0
    refine ⟨rfl, (BelowBut.set go _ _ _ _).alloc (by simp) _, ?_⟩
    have := (HO.out.set_ k (.int .i64 (q + 1))).alloc (.cells #[.bool true, .int .i64 (k : Int)] 66)
    rw [intsC_set, HE.out] at this
    exact this
/-- What Weights keeps while it counts. -/
structure WNow (w wr : World) (g5 go gb gc n : Nat) (xs : List Int) : Prop where
  below : Below w.heap.size w wr
  far : w.heap.size ≤ g5 ∧ w.heap.size ≤ go ∧ go ≠ g5 ∧ go ≠ gb ∧ go ≠ gc
  res : Blk wr g5 28 #[.int .i64 0, .int .i64 0]
  out : Blk wr go 3 (intsC (tally n xs))
  box : Blk wr gb 26 #[.slice (some ⟨go, 0, none⟩) n n]
  cnt : Blk wr gc 72 #[.func (.func 33) #[] #[.pointer (some ⟨gb, 0, none⟩)]]
theorem WNow.next {w wr wx : World} {g5 go gb gc n : Nat} {xs ys : List Int} (h : WNow w wr g5 go gb gc n xs) (hb : BelowBut go wr.heap.size wr wx) (ho : Blk wx go 3 (intsC (tally n ys))) : WNow w wx g5 go gb gc n ys :=
  ⟨h.below.trans (hb.below h.below.size h.far.2.1), h.far, hb.blk h.res h.res.lt h.far.2.2.1.symm, ho, hb.blk h.box h.box.lt h.far.2.2.2.1.symm, hb.blk h.cnt h.cnt.lt h.far.2.2.2.2.symm⟩
theorem WNow.later {w wr wx : World} {g5 go gb gc n : Nat} {xs : List Int} (h : WNow w wr g5 go gb gc n xs) (hb : Below wr.heap.size wr wx) : WNow w wx g5 go gb gc n xs := h.next (but_of hb) (h.out.below hb h.out.lt)
theorem WNow.alloc {w wr : World} {g5 go gb gc n : Nat} {xs : List Int} (h : WNow w wr g5 go gb gc n xs) (o : Obj) : WNow w (wr.alloc o) g5 go gb gc n xs := h.later ((Below.refl _ _).alloc (Nat.le_refl _) o)
theorem but_less {g S S' : Nat} {a b : World} (h : BelowBut g S a b) (hS : S' ≤ S) : BelowBut g S' a b := ⟨h.os, h.tape, h.output, h.size, fun k hk hg => h.block k (by omega) hg⟩
theorem occI_eq {ps : List Int} {regs : Int} {x : InsU} (h : InsOk ps regs x) : (if 0 ≤ x.dst then [x.dst] else []) ++ occVs (valsU x) = occI x := by
  rw [occ_vals h]
  unfold occI
  simp only [List.append_assoc]
theorem blk_grown {w w' : World} {row : Option Nat} {g : Nat} {t : TypeId} {cs : Array Value} (h : Blk w g t cs) (hg : w.grownBy w' row) (hr : ∀ r, row = some r → ∃ o : Obj, w.heap[r]? = some o ∧ o.isCells = false) : Blk w' g t cs :=
  (hg.block g h.lt (fun e => by
    obtain ⟨o, ho, hc⟩ := hr g e.symm
    rw [show w.heap[g]? = _ from h] at ho
    cases ho
    cases hc)).trans h
theorem WNow.grown {w wr wx : World} {row : Option Nat} {g5 go gb gc n : Nat} {xs : List Int} (h : WNow w wr g5 go gb gc n xs) (hg : wr.grownBy wx row) (hr : ∀ r, row = some r → w.heap.size ≤ r ∧ ∃ o : Obj, wr.heap[r]? = some o ∧ o.isCells = false) : WNow w wx g5 go gb gc n xs :=
  ⟨h.below.grown hg h.below.size (fun k e => (hr k e).1), h.far, blk_grown h.res hg (fun r e => (hr r e).2), blk_grown h.out hg (fun r e => (hr r e).2), blk_grown h.box hg (fun r e => (hr r e).2), blk_grown h.cnt hg (fun r e => (hr r e).2)⟩
/-- .. within the loop over an instruction's values. -/
def VNow (w W5 : World) (g5 go gb gc n : Nat) (zs : List Int) (x : InsU) (pre : List { v : Opd // v ∈ valsU x }) (W : World) : Prop := WNow w W g5 go gb gc n (zs ++ occVs (pre.map Subtype.val)) ∧ BelowBut go W5.heap.size W5 W
def weightsF (gs : List Glob) (fs : List FunU) (k : Int) : List Int := if (clashF gs fs k).1 ≠ 0 then [] else match fs[k.toNat]? with | some f => tally f.regs.toNat (occBs f.blocks) | none => []
/-- What a function that hands back numbers and a fault comes to. -/
def IntsPost (w : World) (p : Int × Int) (xs : List Int) (e : Ending) (w' : World) : Prop := ∃ v, e = .returned (.tuple #[v, .agg #[.int .i64 p.1, .int .i64 p.2]]) ∧ OwnInts w' w.heap.size v xs ∧ Below w.heap.size w w'
set_option maxRecDepth 100000 in
set_option maxHeartbeats 4000000 in
theorem Weights_any (gv fv : Value) (gs : List Glob) (fs : List FunU) (k : Int) (w : World) (hk : I64 k) (hu : UnitAt w w.heap.size gv fv gs fs) :
    Calls Tryz.prog 11 #[.agg #[gv, fv], .int .i64 k] w (IntsPost w (clashF gs fs k) (weightsF gs fs k)) := by
  have HU := Lib.hid hu
  obtain ⟨A, c, rfl, hl1, hl2⟩ := SlAt.form hu.funs
  obtain ⟨l, hl⟩ : ∃ l, fs.length = l := ⟨_, rfl⟩
  rw [hl] at HU hl1 ⊢
  have Hl := Lib.hid hl
  have HP : Hid (∀ e w', (∃ v, e = .returned (.tuple #[v, .agg #[.int .i64 (clashF gs fs k).1, .int .i64 (clashF gs fs k).2]]) ∧ OwnInts w' w.heap.size v (weightsF gs fs k) ∧ Below w.heap.size w w') → IntsPost w (clashF gs fs k) (weightsF gs fs k) e w') := Lib.hid fun _ _ h => h
  generalize IntsPost w (clashF gs fs k) (weightsF gs fs k) = PE at *
  have Hk : Hid (I64 k) := Lib.hid hk
  have HW0 : Hid (Below w.heap.size w ((w.alloc (.cells #[gv, .slice A l c] 25)).alloc (.cells #[.int .i64 0, .int .i64 0] 28))) := Lib.hid (((Below.refl _ _).alloc (Nat.le_refl _) _).alloc (by simp) _)
  have HC0 : Hid (Blk ((w.alloc (.cells #[gv, .slice A l c] 25)).alloc (.cells #[.int .i64 0, .int .i64 0] 28)) w.heap.size 25 #[gv, .slice A l c]) := Lib.hid ((Blk.new w _ _).alloc _)
  have HX0 : Hid (Blk ((w.alloc (.cells #[gv, .slice A l c] 25)).alloc (.cells #[.int .i64 0, .int .i64 0] 28)) (w.heap.size + 1) 28 #[.int .i64 0, .int .i64 0]) := Lib.hid (by simpa using Blk.new (w.alloc (.cells #[gv, .slice A l c] 25)) 28 #[.int .i64 0, .int .i64 0])
  clear hu hk hl
  refine (callsIn_wide (n := 3)).1 (callsIn_of_wp_marks Tryz.func11 rfl trivial (wpIn_wide.2 ?_) rfl)
  simp only [Tryz.ntmps11, List.size_toArray, List.length_cons, List.length_nil, Nat.reduceAdd, Nat.reduceSub, Array.replicate_succ, Array.replicate_zero, List.push_toArray, List.append_toArray, List.nil_append, List.cons_append]
  go_upto_region 1 with fail
  generalize (w.alloc (.cells #[gv, .slice A l c] 25)).alloc (.cells #[.int .i64 0, .int .i64 0] 28) = W0 at *
  generalize hg1 : w.heap.size + 1 = g1 at *
  have c0 := HC0.out.cell 0
  have c1 := HC0.out.cell 1
  have HU0 := Lib.hid (HU.out.later HW0.out)
  go_wp2_with fail
  refine (CFault_any gv _ gs fs k W0 Hk.out HU0.out).mono ?_
  rintro e W1 ⟨rfl, hb1⟩
  obtain ⟨uc, ua, hun⟩ : ∃ uc ua, clashF gs fs k = (uc, ua) := ⟨_, _, rfl⟩
  rw [hun]
  have Hun := Lib.hid hun
  clear hun
  have HB1 : Hid (Below w.heap.size w W1) := Lib.hid (HW0.out.trans (hb1.mono HW0.out.size))
  have HC1 := Lib.hid (HC0.out.below hb1 HC0.out.lt)
  have HX1 := Lib.hid (HX0.out.below hb1 HX0.out.lt)
  clear hb1 c0 c1 HU0 HC0 HX0 HW0
  have x0 := HX1.out.cell 0
  have x1 := HX1.out.cell 1
  have hfz := HX1.out.frozen 0
  have hfz1 := HX1.out.frozen 1
  have hgl := HX1.out.lt
  have hg0 := HC1.out.lt
  have hul : w.heap.size ≠ g1 := by omega
  have Hlg : Hid (w.heap.size ≤ g1) := Lib.hid (by omega)
  clear hg1
  have heq := fun W => eqFault uc ua 0 0 W
  by_cases h0 : uc = 0
  · subst h0
    have hcz := clashF_zero (gs := gs) (fs := fs) (k := k) (by rw [Hun.out])
    obtain rfl : ua = 0 := by
      have := hcz.1
      rw [Hun.out] at this
      injection this
    obtain ⟨f, hf, hk0, hk1, hph, hho, hbo⟩ := hcz.2.2
    obtain ⟨n, rfl⟩ : ∃ n : Nat, k = (n : Int) := ⟨k.toNat, by omega⟩
    have hnl : n < l := by rw [Hl.out] at hk1; omega
    have HU1 := Lib.hid (HU.out.move HB1.out (Nat.le_refl _) HB1.out.size)
    obtain ⟨fb, fo, f', bA, bc, rfl, hfb, hfn, _, _, f2, f3, hblw⟩ := FunsAt.one HU.out.funs hnl
    have f2 := (bcell HB1.out hfb).trans f2
    have f3 := (bcell HB1.out hfb).trans f3
    have hbl := hblw.move (Nat.le_refl _) (kept_of HB1.out (Nat.le_refl _))
    obtain rfl : f = f' := by
      rw [Int.toNat_natCast] at hf
      rw [hf] at hfn
      exact Option.some.inj hfn
    obtain ⟨bl, hbl2⟩ : ∃ bl, f.blocks.length = bl := ⟨_, rfl⟩
    obtain ⟨nr, hnr⟩ : ∃ nr : Nat, f.regs = (nr : Int) := ⟨f.regs.toNat, by have := hho.p0; have := hho.r0; omega⟩
    have hnr1 : nr ≤ 100 := by have := hho.r1; omega
    rw [hbl2] at f3 hbl
    rw [hbl2] at hblw
    have HBLw0 := Lib.hid hblw
    clear hblw
    rw [hnr] at f2
    have HBL := Lib.hid hbl
    have HBLn := Lib.hid hbl2
    have hbl40 : bl ≤ 40 := by have := hho.b1; omega
    have HE : Hid (weightsF gs fs (n : Int) = tally nr (occBs f.blocks)) := Lib.hid (by
      unfold weightsF
      rw [if_neg (by rw [Hun.out]; simp), hf]
      show tally f.regs.toNat _ = _
      rw [hnr]
      simp)
    have Hfew : Hid ((occBs f.blocks).length ≤ 2740) := Lib.hid (occ_few hcz.2.1 hf)
    have Hargs : Hid (∀ b ∈ f.blocks, ∀ x ∈ b.list, x.args.length ≤ 6) := Lib.hid (args_few hcz.2.1 hf)
    have Hin : Hid (∀ x ∈ occBs f.blocks, 0 ≤ x ∧ x < (nr : Int)) := Lib.hid (by rw [← hnr]; exact occ_in hcz.2.1 hf)
    have Hbo : Hid (∀ b ∈ f.blocks, ∀ x ∈ b.list, InsOk (fs.map FunU.params) (nr : Int) x) := Lib.hid (by rw [← hnr]; exact hbo.list)
    have Hbe : Hid (∀ b ∈ f.blocks, b.on.reg = true → 0 ≤ b.on.n ∧ b.on.n < (nr : Int)) := Lib.hid (by rw [← hnr]; exact fun b hb => (hbo.ends b hb).on)
    have hn1 : (n : Int) < (l : Int) := by omega
    have hfb1 : fb < W1.heap.size := Nat.lt_of_lt_of_le hfb HB1.out.size
    have c1 := HC1.out.cell 1
    have hmk := fun W : World => run_make_row' (P := Tryz.prog) 26 3 (.int .i64 0) 8 Tryz.underlying26 infoInt rfl .i64 .i64 nr (by omega) (by omega) W
    have HM0 := Lib.hid (Marks.nil w.heap.size W1)
    have HN0 : Hid (WNow w ((((W1.alloc (.cells #[.int .i64 0, .int .i64 0] 28)).alloc (.cells (madeCells #[.int .i64 0] nr) 3)).alloc (.cells #[.slice (some ⟨W1.heap.size + 1, 0, none⟩) nr nr] 26)).alloc (.cells #[.func (.func 33) #[] #[.pointer (some ⟨W1.heap.size + 1 + 1, 0, none⟩)]] 72)) g1 (W1.heap.size + 1) (W1.heap.size + 1 + 1) (W1.heap.size + 1 + 1 + 1) nr []) := Lib.hid (by
      have hz := HB1.out.size
      refine ⟨?_, ⟨Hlg.out, by omega, by omega, by omega, by omega⟩, ?_, ?_, ?_, ?_⟩
      · exact ((((HB1.out.alloc hz _).alloc (by simp; omega) _).alloc (by simp; omega) _).alloc (by simp; omega) _)
      · exact ((((HX1.out.alloc _).alloc _).alloc _).alloc _)
      · have := ((Blk.new (W1.alloc (.cells #[.int .i64 0, .int .i64 0] 28)) 3 (madeCells #[.int .i64 0] nr)).alloc (.cells #[.slice (some ⟨W1.heap.size + 1, 0, none⟩) nr nr] 26)).alloc (.cells #[.func (.func 33) #[] #[.pointer (some ⟨W1.heap.size + 1 + 1, 0, none⟩)]] 72)
        rw [World.size_alloc] at this
        have e : madeCells #[.int .i64 0] nr = intsC (tally nr []) := by rw [made_ints, tally_nil]
        unfold Blk at this ⊢
        rw [this, e]
      · have := (Blk.new ((W1.alloc (.cells #[.int .i64 0, .int .i64 0] 28)).alloc (.cells (madeCells #[.int .i64 0] nr) 3)) 26 #[.slice (some ⟨W1.heap.size + 1, 0, none⟩) nr nr]).alloc (.cells #[.func (.func 33) #[] #[.pointer (some ⟨W1.heap.size + 1 + 1, 0, none⟩)]] 72)
        simp only [World.size_alloc] at this
        exact this
      · have := Blk.new (((W1.alloc (.cells #[.int .i64 0, .int .i64 0] 28)).alloc (.cells (madeCells #[.int .i64 0] nr) 3)).alloc (.cells #[.slice (some ⟨W1.heap.size + 1, 0, none⟩) nr nr] 26)) 72 #[.func (.func 33) #[] #[.pointer (some ⟨W1.heap.size + 1 + 1, 0, none⟩)]]
        simp only [World.size_alloc] at this
        exact this)
    have HB2 : Hid (Below W1.heap.size W1 ((((W1.alloc (.cells #[.int .i64 0, .int .i64 0] 28)).alloc (.cells (madeCells #[.int .i64 0] nr) 3)).alloc (.cells #[.slice (some ⟨W1.heap.size + 1, 0, none⟩) nr nr] 26)).alloc (.cells #[.func (.func 33) #[] #[.pointer (some ⟨W1.heap.size + 1 + 1, 0, none⟩)]] 72))) :=
      Lib.hid (((((Below.refl _ _).alloc (Nat.le_refl _) _).alloc (by simp) _).alloc (by simp; omega) _).alloc (by simp; omega) _)
    clear hcz hf hk0 hk1 hph hho hbo hfn hbl hbl2
    go_upto_region 6 with fail
    generalize (((W1.alloc (.cells #[.int .i64 0, .int .i64 0] 28)).alloc (.cells (madeCells #[.int .i64 0] nr) 3)).alloc (.cells #[.slice (some ⟨W1.heap.size + 1, 0, none⟩) nr nr] 26)).alloc (.cells #[.func (.func 33) #[] #[.pointer (some ⟨W1.heap.size + 1 + 1, 0, none⟩)]] 72) = W2 at *
    have c1 := (bcell HB2.out hg0).trans c1
    have f3 := (bcell HB2.out hfb1).trans f3
    have HM2 := Lib.hid (HM0.out.below HB2.out)
    have HB3 : Hid (Below w.heap.size w W2) := Lib.hid HN0.out.below
    have HBL2 := Lib.hid (HBL.out.move (Nat.le_refl _) (kept_of HB2.out HB1.out.size))
    have HBLw : Hid (BlksAt w w.heap.size (.slice bA bl bc) f.blocks) := Lib.hid HBLw0.out
    generalize hgo : W1.heap.size + 1 = go at *
    generalize go + 1 = gb at *
    generalize gb + 1 = gc at *
    clear hmk heq x0 x1 hfz hfz1 HM0 HB2 HBL HU1 HX1 HC1 HB1 f2 hgo hgl hul
    go_wp2_with fail
    refine wp_loop_fill w.heap.size 36 [10, 12, 37, 38, 39, 40, 41, 42, 43, 44, 45, 46, 47, 48, 49, 50, 51, 52, 53, 54, 55, 56, 57, 58, 63, 64, 65, 66, 67, 68, 69] (fun gk v wr => ∃ j : Nat, j + gk = bl ∧ v = .int .i64 j ∧ Hid (WNow w wr g1 go gb gc nr (occBs (f.blocks.take j)))) bl (by simp only [fill, List.set_cons_succ, List.set_cons_zero, List.getD_cons_succ, List.getD_cons_zero]) HM2.out ⟨0, by omega, rfl, HN0⟩ ?_
    intro gk v u ds wr hM hrel J K hJ hK
    simp only [fill, List.set_cons_succ, List.set_cons_zero]
    obtain ⟨j, hj, rfl, HN⟩ := hrel
    clear HN0 HM2 HBL2 c1 f3
    rcases gk with _ | m
    · obtain rfl : j = bl := by omega
      have hlt : ¬ (j : Int) < (j : Int) := by omega
      have HE2 : Hid (WNow w wr g1 go gb gc nr (occBs f.blocks)) := Lib.hid (by have := HN.out; rw [List.take_of_length_le (by rw [HBLn.out]; exact Nat.le_refl _)] at this; exact this)
      have b0 := HE2.out.box.cell 0
      have r0 := HE2.out.res.cell 0
      have r1 := HE2.out.res.cell 1
      have q0 := HE2.out.res.frozen 0
      have q1 := HE2.out.res.frozen 1
      go_wp2_with fail
      refine end_tmp_cell_m ((hM.set _ _).set _ _) rfl rfl (HE2.out.res.set2 _ _) Tryz.underlying28 rfl (by kernel_rfl) ?_
      intro w' hs hb
      refine HP.out _ _ ⟨_, by rw [Hun.out], ?_, ?_⟩
      · have h2 := hs.blk ((HE2.out.out.far (p := ⟨g1, 0, none⟩) HE2.out.far.2.2.1 (.int .i64 0)).far (p := ⟨g1, 1, none⟩) HE2.out.far.2.2.1 (.int .i64 0))
        have h3 := own_of_blk h2 HE2.out.far.2.1 (by rw [tally_len]; omega)
        rw [tally_len] at h3
        rw [HE.out]
        exact h3
      · exact ((HE2.out.below.setCell Hlg.out _).setCell Hlg.out _).trans hb
    · have hlt : (j : Int) < (bl : Int) := by omega
      have hj0 : (0 : Int) ≤ (j : Int) := Int.natCast_nonneg j
      obtain ⟨bb, bo, b, pA, pc, lA, lc, tA, tc, rfl, hbb, hbj, p0, p1, p2, p3, p4, p5, hph, hli, hto⟩ := BlksAt.one HBLw.out (show j < bl by omega)
      have p0 := (bcell HN.out.below hbb).trans p0
      have p1 := (bcell HN.out.below hbb).trans p1
      have p2 := (bcell HN.out.below hbb).trans p2
      have p3 := (bcell HN.out.below hbb).trans p3
      have p4 := (bcell HN.out.below hbb).trans p4
      have p5 := (bcell HN.out.below hbb).trans p5
      have hbb1 : bb < wr.heap.size := Nat.lt_of_lt_of_le hbb HN.out.below.size
      have Hbj := Lib.hid hbj
      obtain ⟨ll, hll⟩ : ∃ ll, b.list.length = ll := ⟨_, rfl⟩
      rw [hll] at p1 hli
      have Hll := Lib.hid hll
      have HLI := Lib.hid hli
      have hll63 : ll ≤ 9223372036854775807 := by
        obtain ⟨_, _, e, h1, h2⟩ := SlAt.form hli
        cases e
        omega
      have HN1 : Hid (WNow w (wr.alloc (.cells #[.slice pA b.phis.length pc, .slice lA ll lc, .int .i64 b.kind, .bool b.on.reg, .int .i64 b.on.n, .slice tA b.to.length tc] 78)) g1 go gb gc nr (occBs (f.blocks.take j))) := Lib.hid (HN.out.alloc _)
      have HBk : Hid (Blk (wr.alloc (.cells #[.slice pA b.phis.length pc, .slice lA ll lc, .int .i64 b.kind, .bool b.on.reg, .int .i64 b.on.n, .slice tA b.to.length tc] 78)) wr.heap.size 78 #[.slice pA b.phis.length pc, .slice lA ll lc, .int .i64 b.kind, .bool b.on.reg, .int .i64 b.on.n, .slice tA b.to.length tc]) := Lib.hid (Blk.new _ _ _)
      have HM1 : Hid (Marks w.heap.size ds (wr.alloc (.cells #[.slice pA b.phis.length pc, .slice lA ll lc, .int .i64 b.kind, .bool b.on.reg, .int .i64 b.on.n, .slice tA b.to.length tc] 78))) := Lib.hid (hM.below ((Below.refl _ _).alloc (Nat.le_refl _) _))
      clear hbj hll hph hli hto hM
      have hgo : go < wr.heap.size := HN.out.out.lt
      go_upto_region 9 with fail
      clear p0 p1 p2 p3 p4 p5
      generalize wr.alloc (.cells #[.slice pA b.phis.length pc, .slice lA ll lc, .int .i64 b.kind, .bool b.on.reg, .int .i64 b.on.n, .slice tA b.to.length tc] 78) = W3 at *
      generalize hzb : wr.heap.size = zb at *
      have p1 := HBk.out.cell 1
      go_wp2_with fail
      refine wp_loop_fill w.heap.size 43 [12, 44, 45, 46, 47, 48, 49, 50, 51, 52, 53, 54, 55, 56, 57, 58, 63] (fun gk v wr => ∃ i : Nat, i + gk = ll ∧ v = .int .i64 i ∧ Hid (WNow w wr g1 go gb gc nr (occBs (f.blocks.take j) ++ occIs (b.list.take i))) ∧ Hid (Blk wr zb 78 #[.slice pA b.phis.length pc, .slice lA ll lc, .int .i64 b.kind, .bool b.on.reg, .int .i64 b.on.n, .slice tA b.to.length tc])) ll (by simp only [fill, List.set_cons_succ, List.set_cons_zero, List.getD_cons_succ, List.getD_cons_zero]) HM1.out ⟨0, by omega, rfl, Lib.hid (by rw [List.take_zero]; simpa [occIs] using HN1.out), HBk⟩ ?_
      intro gi v u2 ds wi hM hrel2 J2 K2 hJ2 hK2
      simp only [fill, List.set_cons_succ, List.set_cons_zero]
      obtain ⟨i, hi, rfl, HNi, HBi⟩ := hrel2
      clear HN1 HBk HM1 p1
      rcases gi with _ | mi
      · have hil : i = ll := by omega
        have hlt : ¬ (i : Int) < (ll : Int) := by omega
        have HNe : Hid (WNow w wi g1 go gb gc nr (occBs (f.blocks.take j) ++ occIs b.list)) := Lib.hid (by have := HNi.out; rw [List.take_of_length_le (l := b.list) (by rw [Hll.out]; omega)] at this; exact this)
        have p3 := HBi.out.cell 3
        have p4 := HBi.out.cell 4
        have k0 := HNe.out.cnt.cell 0
        clear hil
        go_wp2_with fail
        refine (Count_any b.on go gb nr _ wi HNe.out.box HNe.out.out (by
          have h1 := occBs_part Hbj.out
          have h2 := Hfew.out
          unfold occB at h1
          rw [List.length_append] at h1 ⊢
          omega) (Hbe.out b (List.mem_of_getElem? Hbj.out))).mono ?_
        rintro e wj ⟨rfl, hbj, hoj⟩
        have HNj : Hid (WNow w wj g1 go gb gc nr (occBs (f.blocks.take (j + 1)))) := Lib.hid (by
          have := HNe.out.next hbj hoj
          rw [List.append_assoc, show occIs b.list ++ occV b.on = occB b from rfl, ← occBs_snoc Hbj.out] at this
          exact this)
        have HMj : Hid (Marks w.heap.size ds wj) := Lib.hid (hbj.marks hM (Nat.le_refl _) (fun l e => by have h := HNe.out.out; unfold Blk at h; rw [e] at h; cases h))
        clear hbj hoj p3 p4 k0 HNe
        go_wp2_with fail
        refine Handed.intro m (by omega) ?_
        exact hJ m _ _ _ (by simp only [fill, List.set_cons_succ, List.set_cons_zero, List.getD_cons_succ, List.getD_cons_zero]) HMj.out ⟨j + 1, by omega, by simp only [List.getD_cons_succ, List.getD_cons_zero]; go_num, HNj⟩
      · have hlt : (i : Int) < (ll : Int) := by omega
        have hi0 : (0 : Int) ≤ (i : Int) := Int.natCast_nonneg i
        obtain ⟨xb, xo, x, aA, ac, rfl, hxb, hxi, q0, q1, q2, q3, q4, q5, q6, q7, hop⟩ := InssAt.one HLI.out (show i < ll by omega)
        have q0 := (bcell HNi.out.below hxb).trans q0
        have q1 := (bcell HNi.out.below hxb).trans q1
        have q2 := (bcell HNi.out.below hxb).trans q2
        have q3 := (bcell HNi.out.below hxb).trans q3
        have q4 := (bcell HNi.out.below hxb).trans q4
        have q5 := (bcell HNi.out.below hxb).trans q5
        have q6 := (bcell HNi.out.below hxb).trans q6
        have q7 := (bcell HNi.out.below hxb).trans q7
        have hxb1 : xb < wi.heap.size := Nat.lt_of_lt_of_le hxb HNi.out.below.size
        have Hxi := Lib.hid hxi
        have Hop := Lib.hid hop
        have Hok := Lib.hid (Hbo.out b (List.mem_of_getElem? Hbj.out) x (List.mem_of_getElem? hxi))
        obtain ⟨al, hal⟩ : ∃ al, x.args.length = al := ⟨_, rfl⟩
        rw [hal] at q7 Hop
        have Hal := Lib.hid hal
        have HN1 : Hid (WNow w (wi.alloc (.cells #[.int .i64 x.op, .int .i64 x.dst, .bool x.a.reg, .int .i64 x.a.n, .bool x.b.reg, .int .i64 x.b.n, .int .i64 x.fn, .slice aA al ac] 69)) g1 go gb gc nr (occBs (f.blocks.take j) ++ occIs (b.list.take i))) := Lib.hid (HNi.out.alloc _)
        have HB1i : Hid (Blk (wi.alloc (.cells #[.int .i64 x.op, .int .i64 x.dst, .bool x.a.reg, .int .i64 x.a.n, .bool x.b.reg, .int .i64 x.b.n, .int .i64 x.fn, .slice aA al ac] 69)) zb 78 #[.slice pA b.phis.length pc, .slice (some ⟨xb, xo, none⟩) ll lc, .int .i64 b.kind, .bool b.on.reg, .int .i64 b.on.n, .slice tA b.to.length tc]) := Lib.hid (HBi.out.alloc _)
        have HX1 : Hid (Blk (wi.alloc (.cells #[.int .i64 x.op, .int .i64 x.dst, .bool x.a.reg, .int .i64 x.a.n, .bool x.b.reg, .int .i64 x.b.n, .int .i64 x.fn, .slice aA al ac] 69)) wi.heap.size 69 #[.int .i64 x.op, .int .i64 x.dst, .bool x.a.reg, .int .i64 x.a.n, .bool x.b.reg, .int .i64 x.b.n, .int .i64 x.fn, .slice aA al ac]) := Lib.hid (Blk.new _ _ _)
        have HM1 : Hid (Marks w.heap.size ds (wi.alloc (.cells #[.int .i64 x.op, .int .i64 x.dst, .bool x.a.reg, .int .i64 x.a.n, .bool x.b.reg, .int .i64 x.b.n, .int .i64 x.fn, .slice aA al ac] 69))) := Lib.hid (hM.below ((Below.refl _ _).alloc (Nat.le_refl _) _))
        have hgoz : go ≠ wi.heap.size := by have := HNi.out.out.lt; omega
        clear hxi hop hal hM
        go_upto_region 12 with fail
        clear q0 q1 q2 q3 q4 q5 q6 q7
        generalize wi.alloc (.cells #[.int .i64 x.op, .int .i64 x.dst, .bool x.a.reg, .int .i64 x.a.n, .bool x.b.reg, .int .i64 x.b.n, .int .i64 x.fn, .slice aA al ac] 69) = W4 at *
        generalize hzx : wi.heap.size = zx at *
        have q1 := HX1.out.cell 1
        go_upto_if 49 with fail
        go_cut [] from 50 to 56 (fun wx => Hid (WNow w wx g1 go gb gc nr (occBs (f.blocks.take j) ++ occIs (b.list.take i) ++ (if 0 ≤ x.dst then [x.dst] else []))) ∧ Hid (BelowBut go W4.heap.size W4 wx))
        case first =>
          by_cases hd : 0 ≤ x.dst
          · obtain ⟨q, hq⟩ : ∃ q : Nat, x.dst = (q : Int) := ⟨x.dst.toNat, by omega⟩
            have hqn : q < nr := by
              rcases Hok.out.dst with h | h
              · omega
              · omega
            have hlen : (occBs (f.blocks.take j) ++ occIs (b.list.take i)).length ≤ 2740 := by
              have h1 := occBs_part Hbj.out
              have h2 := occIs_part Hxi.out
              have h3 := Hfew.out
              unfold occB at h1
              rw [List.length_append] at h1 ⊢
              omega
            have HE1 : Hid (WNow w (W4.setCell ⟨go, q, none⟩ (.int .i64 ((((occBs (f.blocks.take j) ++ occIs (b.list.take i)).count (q : Int) : Nat) : Int) + 1))) g1 go gb gc nr (occBs (f.blocks.take j) ++ occIs (b.list.take i) ++ (if 0 ≤ x.dst then [x.dst] else []))) := Lib.hid (by
              refine HN1.out.next (BelowBut.set _ _ _ _ _) ?_
              have h := HN1.out.out.set_ q (.int .i64 ((((occBs (f.blocks.take j) ++ occIs (b.list.take i)).count (q : Int) : Nat) : Int) + 1))
              rw [intsC_set, tally_snoc hqn] at h
              rw [if_pos hd, hq]
              exact h)
            have hc := (HN1.out.out.cell q).trans (intsC_at (tally_at hqn (l := occBs (f.blocks.take j) ++ occIs (b.list.take i))))
            have hfz := HN1.out.out.frozen q
            have b0 := HN1.out.box.cell 0
            have hcn : (((occBs (f.blocks.take j) ++ occIs (b.list.take i)).count (q : Int) : Nat) : Int) ≤ 5000 := by
              have := List.count_le_length (a := (q : Int)) (l := occBs (f.blocks.take j) ++ occIs (b.list.take i))
              omega
            have hc0 : (0 : Int) ≤ (((occBs (f.blocks.take j) ++ occIs (b.list.take i)).count (q : Int) : Nat) : Int) := Int.natCast_nonneg _
            have HB5 : Hid (BelowBut go W4.heap.size W4 (W4.setCell ⟨go, q, none⟩ (.int .i64 ((((occBs (f.blocks.take j) ++ occIs (b.list.take i)).count (q : Int) : Nat) : Int) + 1)))) := Lib.hid (BelowBut.set _ _ _ _ _)
            generalize (((occBs (f.blocks.take j) ++ occIs (b.list.take i)).count (q : Int) : Nat) : Int) = cn at *
            have hq1 : x.dst < (nr : Int) := by omega
            have hqt : x.dst.toNat = q := by omega
            clear hlen hq
            go_wp2_with fail
            go_meet
            exact ⟨HE1, HB5⟩
          · have HE1 : Hid (WNow w W4 g1 go gb gc nr (occBs (f.blocks.take j) ++ occIs (b.list.take i) ++ (if 0 ≤ x.dst then [x.dst] else []))) := Lib.hid (by rw [if_neg hd, List.append_nil]; exact HN1.out)
            go_wp2_with fail
            go_meet
            exact ⟨HE1, Lib.hid (BelowBut.refl _ _ _)⟩
        case rest =>
          obtain ⟨HNc, HBc⟩ := hcut
          obtain ⟨zs, hzs⟩ : ∃ zs, occBs (f.blocks.take j) ++ occIs (b.list.take i) ++ (if 0 ≤ x.dst then [x.dst] else []) = zs := ⟨_, rfl⟩
          rw [hzs] at HNc
          have Hzs := Lib.hid hzs
          clear hzs
          have HXc := Lib.hid (HBc.out.blk HX1.out HX1.out.lt hgoz.symm)
          have HBb := Lib.hid (HBc.out.blk HB1i.out HB1i.out.lt (by have := HNi.out.far; have := HBi.out.lt; have h := HNi.out.out; intro e; have h2 := HBi.out; rw [e] at h2; exact absurd (h2.symm.trans h) (by simp)))
          have HMc : Hid (Marks w.heap.size ds wc) := Lib.hid (HBc.out.marks HM1.out (Nat.le_refl _) (fun l e => by have h := HN1.out.out; unfold Blk at h; rw [e] at h; cases h))
          have q0 := HXc.out.cell 0
          have q1 := HXc.out.cell 1
          have q2 := HXc.out.cell 2
          have q3 := HXc.out.cell 3
          have q4 := HXc.out.cell 4
          have q5 := HXc.out.cell 5
          have q6 := HXc.out.cell 6
          have q7 := HXc.out.cell 7
          clear HN1 HB1i HX1 HM1
          go_wp2_with fail
          refine (Vals_any x.op x.dst x.a.reg x.b.reg x.a.n x.b.n x.fn aA al ac wc).mono ?_
          rintro e W5 ⟨rfl, rfl⟩
          clear q0 q1 q2 q3 q4 q5 q6 q7
          have HV5 : Hid (Blk (wc.alloc (.cells #[.int .i64 x.op, .int .i64 x.dst, .bool x.a.reg, .int .i64 x.a.n, .bool x.b.reg, .int .i64 x.b.n, .int .i64 x.fn, .slice aA al ac] 69)) wc.heap.size 69 #[.int .i64 x.op, .int .i64 x.dst, .bool x.a.reg, .int .i64 x.a.n, .bool x.b.reg, .int .i64 x.b.n, .int .i64 x.fn, .slice aA al ac]) := Lib.hid (Blk.new _ _ _)
          have HN5 : Hid (WNow w (wc.alloc (.cells #[.int .i64 x.op, .int .i64 x.dst, .bool x.a.reg, .int .i64 x.a.n, .bool x.b.reg, .int .i64 x.b.n, .int .i64 x.fn, .slice aA al ac] 69)) g1 go gb gc nr zs) := Lib.hid (HNc.out.alloc _)
          have HB5 := Lib.hid (HBb.out.alloc (.cells #[.int .i64 x.op, .int .i64 x.dst, .bool x.a.reg, .int .i64 x.a.n, .bool x.b.reg, .int .i64 x.b.n, .int .i64 x.fn, .slice aA al ac] 69))
          have HM5 : Hid (Marks w.heap.size ds (wc.alloc (.cells #[.int .i64 x.op, .int .i64 x.dst, .bool x.a.reg, .int .i64 x.a.n, .bool x.b.reg, .int .i64 x.b.n, .int .i64 x.fn, .slice aA al ac] 69))) := Lib.hid (HMc.out.below ((Below.refl _ _).alloc (Nat.le_refl _) _))
          have hgv : go ≠ wc.heap.size := by have := HNc.out.out.lt; omega
          generalize wc.alloc (.cells #[.int .i64 x.op, .int .i64 x.dst, .bool x.a.reg, .int .i64 x.a.n, .bool x.b.reg, .int .i64 x.b.n, .int .i64 x.fn, .slice aA al ac] 69) = W5 at *
          generalize wc.heap.size = zv at *
          clear HNc HBc HXc HBb HMc
          go_wp2_with fail
          have hS5 : w.heap.size ≤ W5.heap.size := HN5.out.below.size
          refine wp_range_boxed (q := 13) 66 go (gf := 54) (lb := #[.pointer (some ⟨zv, 0, none⟩)]) rfl (fun a W => MuLone.run_callFunc_enter Tryz.func54 (by kernel_rfl) rfl a W)
            (enc := fun v : { v : Opd // v ∈ valsU x } => .agg #[.bool v.1.reg, .int .i64 v.1.n]) (cells := fun v => #[.bool v.1.reg, .int .i64 v.1.n])
            (vals_stops 2 (by omega) zv go w.heap.size x Hok.out.op aA al ac W5 hgv.symm HN5.out.far.2.1 HN5.out.out.lt HV5.out (Hop.out.move (Nat.le_refl _) (kept_of HN5.out.below (Nat.le_refl _)))) HN5.out.out.lt
            (VNow w W5 g1 go gb gc nr zs x)
            (fun s A B row hs hg hr => ⟨hs.1.grown hg (fun r e => ⟨Nat.le_trans hS5 (hr r e).1, (hr r e).2⟩), hs.2.grown hg hs.2.size (fun r e => .inl (hr r e).1)⟩)
            ⟨by simpa [VNow, occVs] using HN5.out, BelowBut.refl _ _ _⟩ ?assign (fun pre W o _ hi => ⟨hi.1.alloc o, hi.2.alloc hi.2.size o⟩) ?body ?done
          case assign =>
            intro lp v W K hK
            simp only [List.set_cons_succ, List.set_cons_zero] at hK ⊢
            gi_wp2_with fail
            exact hK
          case body =>
            rintro lp pre v Bx W h1 h2 ⟨hi, hb⟩ hv hlen
            simp only [List.set_cons_succ, List.set_cons_zero]
            have v0 := hv.cell 0
            have v1 := hv.cell 1
            have k0 := hi.cnt.cell 0
            have HI := Lib.hid hi
            have HB := Lib.hid hb
            have HL : Hid ((zs ++ occVs (pre.map Subtype.val)).length ≤ 5000) := Lib.hid (by
              rw [← Hzs.out]
              have h1 := occBs_part Hbj.out
              have h2 := occIs_part Hxi.out
              have h3 := Hfew.out
              have h4 := occVs_len (pre.map Subtype.val)
              have h5 := vals_len x
              have h6 := Hargs.out b (List.mem_of_getElem? Hbj.out) x (List.mem_of_getElem? Hxi.out)
              have h7 : (if 0 ≤ x.dst then [x.dst] else []).length ≤ 1 := by split <;> simp
              unfold occB at h1
              rw [List.length_map] at h4
              simp only [List.length_append] at h1 ⊢
              omega)
            clear hi hb hlen
            gi_wp2_with fail
            refine ⟨trivial, (CallsIn.inRound lp (callsIn_wide.2 (Count_any v.1 go gb nr _ W HI.out.box HI.out.out HL.out (vals_in Hok.out v.1 v.2)))).mono ?_⟩
            rintro e W' ⟨rfl, hbj, hoj⟩
            have HF : Hid (BelowBut go W.heap.size W W' ∧ VNow w W5 g1 go gb gc nr zs x (pre ++ [v]) W') := Lib.hid (by
              refine ⟨hbj, ?_, HB.out.trans (but_less hbj HB.out.size)⟩
              have := HI.out.next hbj hoj
              rw [List.map_append, occVs_app, List.map_singleton, occVs_one, ← List.append_assoc]
              exact this)
            clear hbj hoj v0 v1 k0 HI HB HL
            gi_wp2_with fail
            exact HF.out
          case done =>
            rintro D xs W hD hxs ⟨hi, hb⟩ hK
            have HNn : Hid (WNow w W g1 go gb gc nr (occBs (f.blocks.take j) ++ occIs (b.list.take (i + 1)))) := Lib.hid (by
              rw [← Hzs.out, hxs, List.append_assoc, occI_eq Hok.out, List.append_assoc, ← occIs_snoc Hxi.out] at hi
              exact hi)
            have HBn := Lib.hid (hb.blk HB5.out HB5.out.lt (by have h := HN5.out.out; intro e; have h2 := HB5.out; rw [e] at h2; exact absurd (h2.symm.trans h) (by simp)))
            have HMn : Hid (Marks w.heap.size ({ target := .collected D, args := #[] } :: ds) W) := Lib.hid (HM5.out.push hS5 hD hK (fun D' _ hD' => (hb.block D' (Array.getElem?_eq_some_iff.1 hD').1 (fun e => by have h := HN5.out.out; unfold Blk at h; rw [← e, hD'] at h; cases h)).trans hD'))
            clear hi hb hK hxs HN5 HB5 HM5 HV5 hgv hS5 hD
            go_wp2_with fail
            refine Handed.intro mi (by omega) ?_
            exact hJ2 mi _ _ _ (by simp only [fill, List.set_cons_succ, List.set_cons_zero, List.getD_cons_succ, List.getD_cons_zero]) HMn.out ⟨i + 1, by omega, by simp only [List.getD_cons_succ, List.getD_cons_zero]; go_num, HNn, HBn⟩
  · have hub : (uc == 0) = false := by simpa using h0
    have HE : Hid (weightsF gs fs k = []) := Lib.hid (by unfold weightsF; rw [if_pos (by rw [Hun.out]; exact h0)])
    clear h0
    go_wp2_with fail
    go_region
    all_goals
      go_wp2_with fail
      refine end_tmp_cell_m (Marks.nil w.heap.size _) rfl rfl (Blk.alloc (HX1.out.set2 _ _) _) Tryz.underlying28 rfl (by kernel_rfl) ?_
      intro w' hs hb
      refine HP.out _ _ ⟨_, by rw [Hun.out], ?_, ?_⟩
      · rw [HE.out]; exact OwnInts.nil _ _
      · exact (below_drewN (Below.alloc (((HB1.out.setCell Hlg.out _).setCell Hlg.out _)) (by simp; exact HB1.out.size) _) 1).trans hb
end Go.Proofs.YtiknhfbkphoceaaGreatDoor
