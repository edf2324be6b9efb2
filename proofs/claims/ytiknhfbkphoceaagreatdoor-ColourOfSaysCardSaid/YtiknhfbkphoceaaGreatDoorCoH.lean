/-
  The wishes of a register, one behind the other.
  Conditions: as the theorems say.
-/
import Derived.Test.YtiknhfbkphoceaaGreatDoorCoB
import Derived.Test.YtiknhfbkphoceaaGreatDoorPick
import Derived.Test.YtiknhfbkphoceaaGreatDoorOfB
import Derived.Stop.RegionWithIn
import Derived.Sort.QuietIn
namespace Go.Proofs.YtiknhfbkphoceaaGreatDoor
open Go.RowKit
attribute [local go_sem] Oper.semAt_some

/-- The places that a copy asks for. -/
def wishI (ps : List Int) (r : Int) (x : InsU) : List Int :=
  if x.op = 1 ∧ x.a.reg = true then (if x.a.n = r then [ps.getD x.dst.toNat 0] else []) ++ (if x.dst = r then [ps.getD x.a.n.toNat 0] else []) else []
def wishIs (ps : List Int) (r : Int) (xs : List InsU) : List Int := (xs.map (wishI ps r)).flatten
def wishBs (ps : List Int) (r : Int) (bs : List BlkU) : List Int := (bs.map fun b => wishIs ps r b.list).flatten
def wishT (f : FunU) (r : Int) : List Int := if r < f.params then [r] else []
/-- All that a register asks for. -/
def wishesL (f : FunU) (giv ps : List Int) (r : Int) : List Int := wishBs ps r f.blocks ++ wishT f r ++ giv
theorem wishIs_snoc {ps : List Int} {r : Int} {vs : List InsU} {k : Nat} {v : InsU} (h : vs[k]? = some v) : wishIs ps r (vs.take (k + 1)) = wishIs ps r (vs.take k) ++ wishI ps r v := by
  have hlt := (List.getElem?_eq_some_iff.1 h).1
  unfold wishIs
  rw [List.take_succ_eq_append_getElem hlt, (List.getElem?_eq_some_iff.1 h).2]
  simp
theorem wishBs_snoc {ps : List Int} {r : Int} {vs : List BlkU} {k : Nat} {v : BlkU} (h : vs[k]? = some v) : wishBs ps r (vs.take (k + 1)) = wishBs ps r (vs.take k) ++ wishIs ps r v.list := by
  have hlt := (List.getElem?_eq_some_iff.1 h).1
  unfold wishBs
  rw [List.take_succ_eq_append_getElem hlt, (List.getElem?_eq_some_iff.1 h).2]
  simp
theorem wishIs_split {ps : List Int} {r : Int} {vs : List InsU} (k : Nat) : wishIs ps r vs = wishIs ps r (vs.take k) ++ wishIs ps r (vs.drop k) := by
  unfold wishIs
  rw [← List.flatten_append, ← List.map_append, List.take_append_drop]
theorem wishBs_split {ps : List Int} {r : Int} {vs : List BlkU} (k : Nat) : wishBs ps r vs = wishBs ps r (vs.take k) ++ wishBs ps r (vs.drop k) := by
  unfold wishBs
  rw [← List.flatten_append, ← List.map_append, List.take_append_drop]
theorem wish_pre {f : FunU} {giv ps : List Int} {r : Int} {j i : Nat} {b : BlkU} {x : InsU} {s : List Int} (hb : f.blocks[j]? = some b) (hx : b.list[i]? = some x) (hs : s <+: wishI ps r x) :
    (wishBs ps r (f.blocks.take j) ++ wishIs ps r (b.list.take i) ++ s) <+: wishesL f giv ps r := by
  obtain ⟨t, ht⟩ := hs
  unfold wishesL
  rw [wishBs_split (vs := f.blocks) (j + 1), wishBs_snoc hb, wishIs_split (vs := b.list) (i + 1), wishIs_snoc hx, ← ht]
  exact ⟨t ++ wishIs ps r (b.list.drop (i + 1)) ++ wishBs ps r (f.blocks.drop (j + 1)) ++ wishT f r ++ giv, by simp only [List.append_assoc]⟩
/-- The copies name places. -/
def WishOk (bs : List BlkU) (ps : List Int) : Prop := ∀ b ∈ bs, ∀ x ∈ b.list, x.op = 1 → x.a.reg = true → (0 ≤ x.dst ∧ x.dst < (ps.length : Int)) ∧ (0 ≤ x.a.n ∧ x.a.n < (ps.length : Int))
set_option maxRecDepth 100000 in
set_option maxHeartbeats 4000000 in
theorem wishes1_in (n : Nat) (hn : 1 ≤ n) (l rb pb bp gp g : Nat) (f : FunU) (bv xv av gv : Value) (rows : List (List Int)) (acr giv ps : List Int) (r : Nat) (J Jx : List Int → World → Prop) (W0 W : World)
    (hP : PaintAt W0 bp gp f bv xv av gv rows acr giv ps) (h0W : Below W0.heap.size W0 W) (hg : W0.heap.size ≤ g) (hgW : g < W.heap.size)
    (hrb : Blk W rb 3 #[.int .i64 (r : Int)]) (hpb : Blk W pb 40 #[.pointer (some ⟨bp, 0, none⟩)]) (hrg : rb ≠ g) (hpg : pb ≠ g) (hK : WishOk f.blocks ps) (hJ : AbidesFrom W.heap.size J)
    (hY : ∀ pre v W1, (pre ++ [v]) <+: wishesL f giv ps r → J pre W1 → YieldAt Fence.wide (n - 1) Tryz.prog l #[.int .i64 v] W1 fun e W' =>
      (e = .returned (.bool true) ∧ J (pre ++ [v]) W' ∧ CellsBut g W1 W') ∨ (e = .returned (.bool false) ∧ Jx (pre ++ [v]) W')) (h0 : J [] W) :
    CallsIn Fence.wide n Tryz.prog 61 #[.func (.yield l) #[] #[], .pointer (some ⟨rb, 0, none⟩), .pointer (some ⟨pb, 0, none⟩)] W fun e W' => (∃ v, e = .returned v) ∧
      ((∃ ys, ys = wishesL f giv ps r ∧ J ys W') ∨ (∃ pre, pre <+: wishesL f giv ps r ∧ Jx pre W')) := by
  have HP := Lib.hid hP
  have HJ := Lib.hid hJ
  have HY := Lib.hid hY
  have HK := Lib.hid hK
  have HRB := Lib.hid hrb
  have HPB := Lib.hid hpb
  have H0 := Lib.hid h0W
  obtain ⟨bA, bc, rfl, hb1, hb2⟩ := SlAt.form hP.blks
  have HBL := Lib.hid hP.blks
  obtain ⟨nb, hnb⟩ : ∃ nb, f.blocks.length = nb := ⟨_, rfl⟩
  have Hnb := Lib.hid hnb
  have hbg : bp ≠ g := by have := hP.blk.lt; omega
  have hgg : gp ≠ g := by have := hP.pl.lt; omega
  have r0 := hrb.cell 0
  have q0 := hpb.cell 0
  have p3 := (hP.blk.below h0W hP.blk.lt).cell 3
  have hrbl := hrb.lt
  have hJ2 : J [] (W.alloc (.cells #[.bool true, .int .i64 (r : Int)] 66)) := abides_below hJ h0 ((Below.refl _ _).alloc (Nat.le_refl _) _)
  have HC2 : Hid (CellsBut g W (W.alloc (.cells #[.bool true, .int .i64 (r : Int)] 66))) := Lib.hid (Below.cellsBut ((Below.refl _ _).alloc (Nat.le_refl _) _))
  have HM2 : Hid (Blk (W.alloc (.cells #[.bool true, .int .i64 (r : Int)] 66)) W.heap.size 66 #[.bool true, .int .i64 (r : Int)]) := Lib.hid (Blk.new _ _ _)
  have hmg : W.heap.size ≠ g := by omega
  have HJ2 := Lib.hid hJ2
  rw [hnb] at hb1 p3 HBL HP
  clear hP hJ hY hK hrb hpb h0W h0 hJ2 hnb
  refine callsIn_of_wp Tryz.func61 rfl trivial ?_ rfl
  simp only [Tryz.ntmps61, List.size_toArray, List.length_cons, List.length_nil, Nat.reduceAdd, Nat.reduceSub, Array.replicate_succ, Array.replicate_zero, List.push_toArray, List.append_toArray, List.nil_append, List.cons_append]
  gi_upto_region 1 with fail
  generalize W.alloc (.cells #[.bool true, .int .i64 (r : Int)] 66) = W2 at *
  generalize hmb : W.heap.size = mb at *
  have q0 := HC2.out.cell q0 hpg
  have p3 := HC2.out.cell p3 hbg
  have HR2 := Lib.hid (HC2.out.blk HRB.out hrg)
  have HQ2 := Lib.hid (HC2.out.blk HPB.out hpg)
  have HD2 := Lib.hid (HC2.out.blk (HP.out.blk.below H0.out HP.out.blk.lt) hbg)
  have HG2 := Lib.hid (HC2.out.blk (HP.out.pl.below H0.out HP.out.pl.lt) hgg)
  have HCell : Hid (∀ (k o : Nat) (u : Value), k < W0.heap.size → W0.cell? ⟨k, o, none⟩ = some u → W2.cell? ⟨k, o, none⟩ = some u) := Lib.hid (fun k o u hk hc => HC2.out.cell ((bcell H0.out hk).trans hc) (by omega))
  have hgW2 : g < W2.heap.size := by have := HC2.out.size; omega
  clear HRB HPB HC2 H0 r0 hgW hmb
  gi_upto_region 2 with fail
  clear q0 p3
  gi_loopw [19] (fun i wr => ∃ j : Nat, j ≤ nb ∧ i = .int .i64 j ∧ Hid (J (wishBs ps r (f.blocks.take j)) wr) ∧ Hid (CellsBut g W2 wr)) (fun i _ => nb - (intOf i).toNat)
  case atStart => exact ⟨0, Nat.zero_le _, rfl, Lib.hid (by rw [List.take_zero]; exact HJ2.out), Lib.hid (CellsBut.refl _ _)⟩
  case round =>
    obtain ⟨j, hj, rfl, HJj, HCj⟩ := hrel
    clear HJ2
    by_cases hlt : j < nb
    · have hj0 : (0 : Int) ≤ (j : Int) := Int.natCast_nonneg j
      have hj1 : (j : Int) < (nb : Int) := by omega
      obtain ⟨bb, bo, b, pA, pc, lA, lc, tA, tc, rfl, hbb, hbj, p0, p1, p2, p3, p4, p5, _, hli, _⟩ := BlksAt.one HBL.out hlt
      have p0 := HCj.out.cell (HCell.out _ _ _ hbb p0) (by omega)
      have p1 := HCj.out.cell (HCell.out _ _ _ hbb p1) (by omega)
      have p2 := HCj.out.cell (HCell.out _ _ _ hbb p2) (by omega)
      have p3 := HCj.out.cell (HCell.out _ _ _ hbb p3) (by omega)
      have p4 := HCj.out.cell (HCell.out _ _ _ hbb p4) (by omega)
      have p5 := HCj.out.cell (HCell.out _ _ _ hbb p5) (by omega)
      have hbl : bb < wr.heap.size := block_lt_of_cell p0
      have Hbj := Lib.hid hbj
      obtain ⟨ll, hll⟩ : ∃ ll, b.list.length = ll := ⟨_, rfl⟩
      rw [hll] at p1 hli
      have Hll := Lib.hid hll
      have HLI := Lib.hid hli
      have hll63 : ll ≤ 9223372036854775807 := by
        obtain ⟨_, _, e, h1, h2⟩ := SlAt.form hli
        cases e
        omega
      have HB3 : Hid (Blk (wr.alloc (.cells #[.slice pA b.phis.length pc, .slice lA ll lc, .int .i64 b.kind, .bool b.on.reg, .int .i64 b.on.n, .slice tA b.to.length tc] 78)) wr.heap.size 78 #[.slice pA b.phis.length pc, .slice lA ll lc, .int .i64 b.kind, .bool b.on.reg, .int .i64 b.on.n, .slice tA b.to.length tc]) := Lib.hid (Blk.new _ _ _)
      have HJ3 : Hid (J (wishBs ps r (f.blocks.take j)) (wr.alloc (.cells #[.slice pA b.phis.length pc, .slice lA ll lc, .int .i64 b.kind, .bool b.on.reg, .int .i64 b.on.n, .slice tA b.to.length tc] 78))) := Lib.hid (abides_below HJ.out HJj.out ((Below.refl _ _).alloc (Nat.le_refl _) _))
      have HC3 : Hid (CellsBut g W2 (wr.alloc (.cells #[.slice pA b.phis.length pc, .slice lA ll lc, .int .i64 b.kind, .bool b.on.reg, .int .i64 b.on.n, .slice tA b.to.length tc] 78))) := Lib.hid (HCj.out.trans (Below.cellsBut ((Below.refl _ _).alloc (Nat.le_refl _) _)))
      have hzg : wr.heap.size ≠ g := by have := HCj.out.size; omega
      have hzg : wr.heap.size ≠ g := by have := HCj.out.size; omega
      clear hbj hll hli HJj HCj
      gi_upto_region 4 with fail
      clear p0 p1 p2 p3 p4 p5
      generalize hzb : wr.heap.size = zb at *
      generalize wr.alloc (.cells #[.slice pA b.phis.length pc, .slice lA ll lc, .int .i64 b.kind, .bool b.on.reg, .int .i64 b.on.n, .slice tA b.to.length tc] 78) = W3 at *
      clear hzb hbl
      have p1 := HB3.out.cell 1
      gi_upto_region 5 with fail
      clear p1
      gi_loopw [26] (fun i wi => ∃ q : Nat, q ≤ ll ∧ i = .int .i64 q ∧ Hid (J (wishBs ps r (f.blocks.take j) ++ wishIs ps r (b.list.take q)) wi) ∧ Hid (CellsBut g W2 wi)) (fun i _ => ll - (intOf i).toNat)
      case atStart => exact ⟨0, Nat.zero_le _, rfl, Lib.hid (by rw [List.take_zero]; show J (_ ++ []) _; rw [List.append_nil]; exact HJ3.out), HC3⟩
      case round =>
        obtain ⟨q, hq, rfl, HJq, HCq⟩ := hrel
        clear HJ3 HC3 HB3
        by_cases hql : q < ll
        · have hq0 : (0 : Int) ≤ (q : Int) := Int.natCast_nonneg q
          have hq1 : (q : Int) < (ll : Int) := by omega
          obtain ⟨xb, xo, x, aA, ac, rfl, hxb, hxq, c0, c1, c2, c3, c4, c5, c6, c7, _⟩ := InssAt.one HLI.out hql
          have c0 := HCq.out.cell (HCell.out _ _ _ hxb c0) (by omega)
          have c1 := HCq.out.cell (HCell.out _ _ _ hxb c1) (by omega)
          have c2 := HCq.out.cell (HCell.out _ _ _ hxb c2) (by omega)
          have c3 := HCq.out.cell (HCell.out _ _ _ hxb c3) (by omega)
          have c4 := HCq.out.cell (HCell.out _ _ _ hxb c4) (by omega)
          have c5 := HCq.out.cell (HCell.out _ _ _ hxb c5) (by omega)
          have c6 := HCq.out.cell (HCell.out _ _ _ hxb c6) (by omega)
          have c7 := HCq.out.cell (HCell.out _ _ _ hxb c7) (by omega)
          have hxl : xb < wr.heap.size := block_lt_of_cell c0
          have Hxq := Lib.hid hxq
          have HX4 : Hid (Blk (wr.alloc (.cells #[.int .i64 x.op, .int .i64 x.dst, .bool x.a.reg, .int .i64 x.a.n, .bool x.b.reg, .int .i64 x.b.n, .int .i64 x.fn, .slice aA x.args.length ac] 69)) wr.heap.size 69 #[.int .i64 x.op, .int .i64 x.dst, .bool x.a.reg, .int .i64 x.a.n, .bool x.b.reg, .int .i64 x.b.n, .int .i64 x.fn, .slice aA x.args.length ac]) := Lib.hid (Blk.new _ _ _)
          have HJ4 : Hid (J (wishBs ps r (f.blocks.take j) ++ wishIs ps r (b.list.take q)) (wr.alloc (.cells #[.int .i64 x.op, .int .i64 x.dst, .bool x.a.reg, .int .i64 x.a.n, .bool x.b.reg, .int .i64 x.b.n, .int .i64 x.fn, .slice aA x.args.length ac] 69))) := Lib.hid (abides_below HJ.out HJq.out ((Below.refl _ _).alloc (Nat.le_refl _) _))
          have HC4 : Hid (CellsBut g W2 (wr.alloc (.cells #[.int .i64 x.op, .int .i64 x.dst, .bool x.a.reg, .int .i64 x.a.n, .bool x.b.reg, .int .i64 x.b.n, .int .i64 x.fn, .slice aA x.args.length ac] 69))) := Lib.hid (HCq.out.trans (Below.cellsBut ((Below.refl _ _).alloc (Nat.le_refl _) _)))
          have hxg : wr.heap.size ≠ g := by have := HCq.out.size; omega
          have HKx := Lib.hid (HK.out b (List.mem_of_getElem? Hbj.out) x (List.mem_of_getElem? hxq))
          clear hxq HJq HCq
          gi_upto_region 7 with fail
          clear c0 c1 c2 c3 c4 c5 c6 c7
          generalize wr.alloc (.cells #[.int .i64 x.op, .int .i64 x.dst, .bool x.a.reg, .int .i64 x.a.n, .bool x.b.reg, .int .i64 x.b.n, .int .i64 x.fn, .slice aA x.args.length ac] 69) = W4 at *
          generalize wr.heap.size = xz at *
          have x0 := HX4.out.cell 0
          have x2 := HX4.out.cell 2
          by_cases h1 : x.op = 1
          · cases h2 : x.a.reg with
            | false =>
              rw [h2] at x2
              rw [h1] at x0
              have HE : Hid (wishI ps r x = []) := Lib.hid (by unfold wishI; rw [if_neg (by rw [h2]; simp)])
              have HJe : Hid (J (wishBs ps r (f.blocks.take j) ++ wishIs ps r (b.list.take (q + 1))) W4) := Lib.hid (by rw [wishIs_snoc Hxq.out, HE.out, List.append_nil]; exact HJ4.out)
              gi_wp2_with fail
              go_roundw
              case rel => exact ⟨q + 1, by omega, by go_num, HJe, HC4⟩
              case measure => simp [intOf]; omega
            | true =>
              rw [h2] at x2
              rw [h1] at x0
              have hkx := HKx.out h1 h2
              have Hw : Hid (wishI ps r x = (if x.a.n = r then [ps.getD x.dst.toNat 0] else []) ++ (if x.dst = r then [ps.getD x.a.n.toNat 0] else [])) := Lib.hid (by unfold wishI; rw [if_pos ⟨h1, h2⟩])
              gi_upto_region 8 with fail
              clear x0 x2
              have x1 := HX4.out.cell 1
              have x2 := HX4.out.cell 2
              have x3 := HX4.out.cell 3
              rw [h2] at x2
              have m0 := (HC4.out.blk HM2.out hmg).cell 0
              have m1 := (HC4.out.blk HM2.out hmg).cell 1
              have r0 := (HC4.out.blk HR2.out hrg).cell 0
              have q0 := (HC4.out.blk HQ2.out hpg).cell 0
              have p7 := (HC4.out.blk HD2.out hbg).cell 7
              have hG4 := HC4.out.blk HG2.out hgg
              obtain ⟨⟨hd0, hd1⟩, ha0, ha1⟩ := hkx
              obtain ⟨v1, hv1⟩ : ∃ v, ps[x.dst.toNat]? = some v := ⟨_, List.getElem?_eq_getElem (by omega)⟩
              obtain ⟨v2, hv2⟩ : ∃ v, ps[x.a.n.toNat]? = some v := ⟨_, List.getElem?_eq_getElem (by omega)⟩
              have g1 := (hG4.cell x.dst.toNat).trans (intsC_at hv1)
              have g2 := (hG4.cell x.a.n.toNat).trans (intsC_at hv2)
              rw [List.getD_eq_getElem?_getD, List.getD_eq_getElem?_getD, hv1, hv2, Option.getD_some, Option.getD_some] at Hw
              have HJd : Hid (J (wishBs ps r (f.blocks.take j) ++ wishIs ps r (b.list.take q)) W4.drew) := Lib.hid (abides_below HJ.out HJ4.out ((Below.refl _ _).drew))
              have HCd : Hid (CellsBut g W4 W4.drew) := Lib.hid (Below.cellsBut ((Below.refl _ _).drew))
              clear hv1 hv2 hG4
              by_cases hA : x.a.n = (r : Int)
              · by_cases hD : x.dst = (r : Int)
                · have HE : Hid (wishI ps r x = [v1] ++ [v2]) := Lib.hid (by rw [Hw.out, if_pos hA, if_pos hD])
                  have HF : Hid (((wishBs ps r (f.blocks.take j) ++ wishIs ps r (b.list.take q)) ++ [v1]) <+: wishesL f giv ps r) := Lib.hid (wish_pre Hbj.out Hxq.out (by rw [HE.out]; exact List.prefix_append _ _))
                  have HF2 : Hid (((wishBs ps r (f.blocks.take j) ++ wishIs ps r (b.list.take q)) ++ [v1] ++ [v2]) <+: wishesL f giv ps r) := Lib.hid (by rw [List.append_assoc]; exact wish_pre Hbj.out Hxq.out (by rw [HE.out]; exact List.prefix_refl _))
                  have heq : ∀ W, (Op.equalIn 10000 66 (.agg #[.bool true, .int .i64 x.a.n]) (.agg #[.bool true, .int .i64 (r : Int)])).run Tryz.prog W = .ok true W := fun W => by rw [eqVal]; simp [hA]
                  have hDd : (x.dst == (r : Int)) = true := by simp [hD]
                  have HA1 : Hid (∀ w, (fun bo w => (bo = true ∧ J ((wishBs ps r (f.blocks.take j) ++ wishIs ps r (b.list.take q)) ++ [v1]) w ∧ CellsBut g W4 w) ∨ (bo = false ∧ Jx ((wishBs ps r (f.blocks.take j) ++ wishIs ps r (b.list.take q)) ++ [v1]) w)) true w → CellsBut g W4 w) := Lib.hid (by rintro w (⟨_, _, h⟩ | ⟨h, _⟩); exact h; cases h)
                  have HA1j : Hid (∀ w, (fun bo w => (bo = true ∧ J ((wishBs ps r (f.blocks.take j) ++ wishIs ps r (b.list.take q)) ++ [v1]) w ∧ CellsBut g W4 w) ∨ (bo = false ∧ Jx ((wishBs ps r (f.blocks.take j) ++ wishIs ps r (b.list.take q)) ++ [v1]) w)) true w → J ((wishBs ps r (f.blocks.take j) ++ wishIs ps r (b.list.take q)) ++ [v1]) w) := Lib.hid (by rintro w (⟨_, h, _⟩ | ⟨h, _⟩); exact h; cases h)
                  clear hA hD
                  refine wpIn_region_pick (fun w => w = W4.drew) (fun bo w => (bo = true ∧ J ((wishBs ps r (f.blocks.take j) ++ wishIs ps r (b.list.take q)) ++ [v1]) w ∧ CellsBut g W4 w) ∨ (bo = false ∧ Jx ((wishBs ps r (f.blocks.take j) ++ wishIs ps r (b.list.take q)) ++ [v1]) w)) (fun bo bq w => if bo = true then ((bq = true ∧ J ((wishBs ps r (f.blocks.take j) ++ wishIs ps r (b.list.take q)) ++ [v1] ++ [v2]) w ∧ CellsBut g W4 w) ∨ (bq = false ∧ Jx ((wishBs ps r (f.blocks.take j) ++ wishIs ps r (b.list.take q)) ++ [v1] ++ [v2]) w)) else (bo = true ∧ J ((wishBs ps r (f.blocks.take j) ++ wishIs ps r (b.list.take q)) ++ [v1]) w ∧ CellsBut g W4 w) ∨ (bo = false ∧ Jx ((wishBs ps r (f.blocks.take j) ++ wishIs ps r (b.list.take q)) ++ [v1]) w)) (fun b => .bool b) (fun b b' => if b = true then .bool b' else undef) 14 33 (by kernel_rfl) (by kernel_rfl) (by kernel_rfl) (by kernel_rfl) (by decide) (by decide) rfl ?_
                  intro b1 b2
                  cases b1
                  · iterate 14
                      apply walk_read0
                      · decide
                      · decide
                      · rfl
                      · intro w' hw
                        obtain rfl : w' = W4.drew := hw
                        go_simp
                        exact ⟨rfl, rfl⟩
                      simp only [Act.put, List.setIfInBounds_toArray, List.set_cons_succ, List.set_cons_zero, Nat.reduceAdd]
                    apply walk_step
                    · refine at_ask1 rfl ?_
                      intro w' hw next hN
                      obtain rfl : w' = W4.drew := hw
                      obtain ⟨fn, tmps, assign, body, hy, hR⟩ := HY.out (wishBs ps r (f.blocks.take j) ++ wishIs ps r (b.list.take q)) v1 W4.drew HF.out HJd.out
                      go_simp
                      refine hR.mono ?_
                      rintro e w3 (⟨rfl, h1, h2⟩ | ⟨rfl, h1⟩)
                      · exact ⟨_, rfl, hN true w3 (.inl ⟨rfl, h1, HCd.out.trans h2⟩)⟩
                      · exact ⟨_, rfl, hN false w3 (.inr ⟨rfl, h1⟩)⟩
                    simp only [Act.put, List.setIfInBounds_toArray, List.set_cons_succ, List.set_cons_zero, Nat.reduceAdd]
                    iterate 3
                      apply walk_read1
                      · decide
                      · decide
                      · rfl
                      · intro w' hw
                        go_simp
                        exact ⟨rfl, rfl⟩
                      simp only [Act.put, List.setIfInBounds_toArray, List.set_cons_succ, List.set_cons_zero, Nat.reduceAdd]
                    iterate 15
                      apply walk_step
                      · exact at_skip (by decide) (by decide) rfl
                      simp only [Act.put, List.setIfInBounds_toArray, List.set_cons_succ, List.set_cons_zero, Nat.reduceAdd]
                    apply walk_step
                    · exact at_not2 (by decide) rfl (fun w h => ⟨true, rfl, h⟩)
                    simp only [Act.put, List.setIfInBounds_toArray, List.set_cons_succ, List.set_cons_zero, Nat.reduceAdd]
                    iterate 2
                      apply walk_step
                      · exact at_skip (by decide) (by decide) rfl
                      simp only [Act.put, List.setIfInBounds_toArray, List.set_cons_succ, List.set_cons_zero, Nat.reduceAdd]
                    apply walk_read2
                    · decide
                    · decide
                    · rfl
                    · intro w' hw
                      go_simp
                      exact ⟨rfl, rfl⟩
                    simp only [Act.put, List.setIfInBounds_toArray, List.set_cons_succ, List.set_cons_zero, Nat.reduceAdd]
                    apply walk_nil
                    rintro w' (⟨h, _⟩ | ⟨_, hx⟩)
                    · cases h
                    have HXx := Lib.hid hx
                    clear hx
                    gi_wp2_with fail
                    refine bodyPost_ret (results_none rfl _ _ _) rfl ?_
                    exact ⟨⟨_, rfl⟩, .inr ⟨_, HF.out, HXx.out⟩⟩
                  · cases b2
                    · iterate 14
                        apply walk_read0
                        · decide
                        · decide
                        · rfl
                        · intro w' hw
                          obtain rfl : w' = W4.drew := hw
                          go_simp
                          exact ⟨rfl, rfl⟩
                        simp only [Act.put, List.setIfInBounds_toArray, List.set_cons_succ, List.set_cons_zero, Nat.reduceAdd]
                      apply walk_step
                      · refine at_ask1 rfl ?_
                        intro w' hw next hN
                        obtain rfl : w' = W4.drew := hw
                        obtain ⟨fn, tmps, assign, body, hy, hR⟩ := HY.out (wishBs ps r (f.blocks.take j) ++ wishIs ps r (b.list.take q)) v1 W4.drew HF.out HJd.out
                        go_simp
                        refine hR.mono ?_
                        rintro e w3 (⟨rfl, h1, h2⟩ | ⟨rfl, h1⟩)
                        · exact ⟨_, rfl, hN true w3 (.inl ⟨rfl, h1, HCd.out.trans h2⟩)⟩
                        · exact ⟨_, rfl, hN false w3 (.inr ⟨rfl, h1⟩)⟩
                      simp only [Act.put, List.setIfInBounds_toArray, List.set_cons_succ, List.set_cons_zero, Nat.reduceAdd]
                      iterate 3
                        apply walk_read1
                        · decide
                        · decide
                        · rfl
                        · intro w' hw
                          go_simp
                          exact ⟨rfl, rfl⟩
                        simp only [Act.put, List.setIfInBounds_toArray, List.set_cons_succ, List.set_cons_zero, Nat.reduceAdd]
                      iterate 15
                        apply walk_read1
                        · decide
                        · decide
                        · rfl
                        · intro w' hw
                          obtain F := HA1.out w' hw
                          have x1 := F.cell x1 hxg
                          have x3 := F.cell x3 hxg
                          have r0 := F.cell r0 hrg
                          have q0 := F.cell q0 hpg
                          have p7 := F.cell p7 hbg
                          have g2 := F.cell g2 hgg
                          go_simp
                          exact ⟨rfl, rfl⟩
                        simp only [Act.put, List.setIfInBounds_toArray, List.set_cons_succ, List.set_cons_zero, Nat.reduceAdd]
                      apply walk_step
                      · refine at_ask2 (by decide) rfl ?_
                        intro w' hw next hN
                        obtain F := HA1.out w' hw
                        have x1 := F.cell x1 hxg
                        have x3 := F.cell x3 hxg
                        have r0 := F.cell r0 hrg
                        have q0 := F.cell q0 hpg
                        have p7 := F.cell p7 hbg
                        have g2 := F.cell g2 hgg
                        have hj1 := HA1j.out w' hw
                        obtain ⟨fn, tmps, assign, body, hy, hR⟩ := HY.out ((wishBs ps r (f.blocks.take j) ++ wishIs ps r (b.list.take q)) ++ [v1]) v2 w' HF2.out hj1
                        go_simp
                        refine hR.mono ?_
                        rintro e w3 (⟨rfl, h1, h2⟩ | ⟨rfl, h1⟩)
                        · exact ⟨_, rfl, hN true w3 (.inl ⟨rfl, h1, F.trans h2⟩)⟩
                        · exact ⟨_, rfl, hN false w3 (.inr ⟨rfl, h1⟩)⟩
                      simp only [Act.put, List.setIfInBounds_toArray, List.set_cons_succ, List.set_cons_zero, Nat.reduceAdd]
                      iterate 3
                        apply walk_read2
                        · decide
                        · decide
                        · rfl
                        · intro w' hw
                          go_simp
                          exact ⟨rfl, rfl⟩
                        simp only [Act.put, List.setIfInBounds_toArray, List.set_cons_succ, List.set_cons_zero, Nat.reduceAdd]
                      apply walk_nil
                      rintro w' (⟨h, _⟩ | ⟨_, hx⟩)
                      · cases h
                      have HXx := Lib.hid hx
                      clear hx
                      gi_wp2_with fail
                      refine bodyPost_ret (results_none rfl _ _ _) rfl ?_
                      exact ⟨⟨_, rfl⟩, .inr ⟨_, HF2.out, HXx.out⟩⟩
                    · iterate 14
                        apply walk_read0
                        · decide
                        · decide
                        · rfl
                        · intro w' hw
                          obtain rfl : w' = W4.drew := hw
                          go_simp
                          exact ⟨rfl, rfl⟩
                        simp only [Act.put, List.setIfInBounds_toArray, List.set_cons_succ, List.set_cons_zero, Nat.reduceAdd]
                      apply walk_step
                      · refine at_ask1 rfl ?_
                        intro w' hw next hN
                        obtain rfl : w' = W4.drew := hw
                        obtain ⟨fn, tmps, assign, body, hy, hR⟩ := HY.out (wishBs ps r (f.blocks.take j) ++ wishIs ps r (b.list.take q)) v1 W4.drew HF.out HJd.out
                        go_simp
                        refine hR.mono ?_
                        rintro e w3 (⟨rfl, h1, h2⟩ | ⟨rfl, h1⟩)
                        · exact ⟨_, rfl, hN true w3 (.inl ⟨rfl, h1, HCd.out.trans h2⟩)⟩
                        · exact ⟨_, rfl, hN false w3 (.inr ⟨rfl, h1⟩)⟩
                      simp only [Act.put, List.setIfInBounds_toArray, List.set_cons_succ, List.set_cons_zero, Nat.reduceAdd]
                      iterate 3
                        apply walk_read1
                        · decide
                        · decide
                        · rfl
                        · intro w' hw
                          go_simp
                          exact ⟨rfl, rfl⟩
                        simp only [Act.put, List.setIfInBounds_toArray, List.set_cons_succ, List.set_cons_zero, Nat.reduceAdd]
                      iterate 15
                        apply walk_read1
                        · decide
                        · decide
                        · rfl
                        · intro w' hw
                          obtain F := HA1.out w' hw
                          have x1 := F.cell x1 hxg
                          have x3 := F.cell x3 hxg
                          have r0 := F.cell r0 hrg
                          have q0 := F.cell q0 hpg
                          have p7 := F.cell p7 hbg
                          have g2 := F.cell g2 hgg
                          go_simp
                          exact ⟨rfl, rfl⟩
                        simp only [Act.put, List.setIfInBounds_toArray, List.set_cons_succ, List.set_cons_zero, Nat.reduceAdd]
                      apply walk_step
                      · refine at_ask2 (by decide) rfl ?_
                        intro w' hw next hN
                        obtain F := HA1.out w' hw
                        have x1 := F.cell x1 hxg
                        have x3 := F.cell x3 hxg
                        have r0 := F.cell r0 hrg
                        have q0 := F.cell q0 hpg
                        have p7 := F.cell p7 hbg
                        have g2 := F.cell g2 hgg
                        have hj1 := HA1j.out w' hw
                        obtain ⟨fn, tmps, assign, body, hy, hR⟩ := HY.out ((wishBs ps r (f.blocks.take j) ++ wishIs ps r (b.list.take q)) ++ [v1]) v2 w' HF2.out hj1
                        go_simp
                        refine hR.mono ?_
                        rintro e w3 (⟨rfl, h1, h2⟩ | ⟨rfl, h1⟩)
                        · exact ⟨_, rfl, hN true w3 (.inl ⟨rfl, h1, F.trans h2⟩)⟩
                        · exact ⟨_, rfl, hN false w3 (.inr ⟨rfl, h1⟩)⟩
                      simp only [Act.put, List.setIfInBounds_toArray, List.set_cons_succ, List.set_cons_zero, Nat.reduceAdd]
                      iterate 3
                        apply walk_read2
                        · decide
                        · decide
                        · rfl
                        · intro w' hw
                          go_simp
                          exact ⟨rfl, rfl⟩
                        simp only [Act.put, List.setIfInBounds_toArray, List.set_cons_succ, List.set_cons_zero, Nat.reduceAdd]
                      apply walk_nil
                      rintro w' (⟨_, hj, hc⟩ | ⟨h, _⟩)
                      rotate_left
                      · cases h
                      have HZ := Lib.hid (And.intro hj hc)
                      clear hj hc
                      gi_wp2_with fail
                      go_roundw
                      case rel => exact ⟨q + 1, by omega, by go_num, Lib.hid (by rw [wishIs_snoc Hxq.out, HE.out, ← List.append_assoc, ← List.append_assoc]; exact HZ.out.1), Lib.hid (HC4.out.trans HZ.out.2)⟩
                      case measure => simp [intOf]; omega
                · have HE : Hid (wishI ps r x = [v1]) := Lib.hid (by rw [Hw.out, if_pos hA, if_neg hD]; rfl)
                  have HF : Hid (((wishBs ps r (f.blocks.take j) ++ wishIs ps r (b.list.take q)) ++ [v1]) <+: wishesL f giv ps r) := Lib.hid (wish_pre Hbj.out Hxq.out (by rw [HE.out]; exact List.prefix_refl _))
                  have heq : ∀ W, (Op.equalIn 10000 66 (.agg #[.bool true, .int .i64 x.a.n]) (.agg #[.bool true, .int .i64 (r : Int)])).run Tryz.prog W = .ok true W := fun W => by rw [eqVal]; simp [hA]
                  have hDd : (x.dst == (r : Int)) = false := by simp [hD]
                  have HA1 : Hid (∀ w, (fun bo w => (bo = true ∧ J ((wishBs ps r (f.blocks.take j) ++ wishIs ps r (b.list.take q)) ++ [v1]) w ∧ CellsBut g W4 w) ∨ (bo = false ∧ Jx ((wishBs ps r (f.blocks.take j) ++ wishIs ps r (b.list.take q)) ++ [v1]) w)) true w → CellsBut g W4 w) := Lib.hid (by rintro w (⟨_, _, h⟩ | ⟨h, _⟩); exact h; cases h)
                  refine wpIn_region_pick (fun w => w = W4.drew) (fun bo w => (bo = true ∧ J ((wishBs ps r (f.blocks.take j) ++ wishIs ps r (b.list.take q)) ++ [v1]) w ∧ CellsBut g W4 w) ∨ (bo = false ∧ Jx ((wishBs ps r (f.blocks.take j) ++ wishIs ps r (b.list.take q)) ++ [v1]) w)) (fun bo _ w => (bo = true ∧ J ((wishBs ps r (f.blocks.take j) ++ wishIs ps r (b.list.take q)) ++ [v1]) w ∧ CellsBut g W4 w) ∨ (bo = false ∧ Jx ((wishBs ps r (f.blocks.take j) ++ wishIs ps r (b.list.take q)) ++ [v1]) w)) (fun b => .bool b) (fun _ _ => undef) 14 33 (by kernel_rfl) (by kernel_rfl) (by kernel_rfl) (by kernel_rfl) (by decide) (by decide) rfl ?_
                  intro b1 b2
                  cases b1
                  · iterate 14
                      apply walk_read0
                      · decide
                      · decide
                      · rfl
                      · intro w' hw
                        obtain rfl : w' = W4.drew := hw
                        go_simp
                        exact ⟨rfl, rfl⟩
                      simp only [Act.put, List.setIfInBounds_toArray, List.set_cons_succ, List.set_cons_zero, Nat.reduceAdd]
                    apply walk_step
                    · refine at_ask1 rfl ?_
                      intro w' hw next hN
                      obtain rfl : w' = W4.drew := hw
                      obtain ⟨fn, tmps, assign, body, hy, hR⟩ := HY.out (wishBs ps r (f.blocks.take j) ++ wishIs ps r (b.list.take q)) v1 W4.drew HF.out HJd.out
                      go_simp
                      refine hR.mono ?_
                      rintro e w3 (⟨rfl, h1, h2⟩ | ⟨rfl, h1⟩)
                      · exact ⟨_, rfl, hN true w3 (.inl ⟨rfl, h1, HCd.out.trans h2⟩)⟩
                      · exact ⟨_, rfl, hN false w3 (.inr ⟨rfl, h1⟩)⟩
                    simp only [Act.put, List.setIfInBounds_toArray, List.set_cons_succ, List.set_cons_zero, Nat.reduceAdd]
                    iterate 3
                      apply walk_read1
                      · decide
                      · decide
                      · rfl
                      · intro w' hw
                        go_simp
                        exact ⟨rfl, rfl⟩
                      simp only [Act.put, List.setIfInBounds_toArray, List.set_cons_succ, List.set_cons_zero, Nat.reduceAdd]
                    iterate 15
                      apply walk_step
                      · exact at_skip (by decide) (by decide) rfl
                      simp only [Act.put, List.setIfInBounds_toArray, List.set_cons_succ, List.set_cons_zero, Nat.reduceAdd]
                    apply walk_step
                    · exact at_not2 (by decide) rfl (fun w h => ⟨true, rfl, h⟩)
                    simp only [Act.put, List.setIfInBounds_toArray, List.set_cons_succ, List.set_cons_zero, Nat.reduceAdd]
                    iterate 2
                      apply walk_step
                      · exact at_skip (by decide) (by decide) rfl
                      simp only [Act.put, List.setIfInBounds_toArray, List.set_cons_succ, List.set_cons_zero, Nat.reduceAdd]
                    apply walk_read2
                    · decide
                    · decide
                    · rfl
                    · intro w' hw
                      go_simp
                      exact ⟨rfl, rfl⟩
                    simp only [Act.put, List.setIfInBounds_toArray, List.set_cons_succ, List.set_cons_zero, Nat.reduceAdd]
                    apply walk_nil
                    rintro w' (⟨h, _⟩ | ⟨_, hx⟩)
                    · cases h
                    have HXx := Lib.hid hx
                    clear hx
                    gi_wp2_with fail
                    refine bodyPost_ret (results_none rfl _ _ _) rfl ?_
                    exact ⟨⟨_, rfl⟩, .inr ⟨_, HF.out, HXx.out⟩⟩
                  · iterate 14
                      apply walk_read0
                      · decide
                      · decide
                      · rfl
                      · intro w' hw
                        obtain rfl : w' = W4.drew := hw
                        go_simp
                        exact ⟨rfl, rfl⟩
                      simp only [Act.put, List.setIfInBounds_toArray, List.set_cons_succ, List.set_cons_zero, Nat.reduceAdd]
                    apply walk_step
                    · refine at_ask1 rfl ?_
                      intro w' hw next hN
                      obtain rfl : w' = W4.drew := hw
                      obtain ⟨fn, tmps, assign, body, hy, hR⟩ := HY.out (wishBs ps r (f.blocks.take j) ++ wishIs ps r (b.list.take q)) v1 W4.drew HF.out HJd.out
                      go_simp
                      refine hR.mono ?_
                      rintro e w3 (⟨rfl, h1, h2⟩ | ⟨rfl, h1⟩)
                      · exact ⟨_, rfl, hN true w3 (.inl ⟨rfl, h1, HCd.out.trans h2⟩)⟩
                      · exact ⟨_, rfl, hN false w3 (.inr ⟨rfl, h1⟩)⟩
                    simp only [Act.put, List.setIfInBounds_toArray, List.set_cons_succ, List.set_cons_zero, Nat.reduceAdd]
                    iterate 3
                      apply walk_read1
                      · decide
                      · decide
                      · rfl
                      · intro w' hw
                        go_simp
                        exact ⟨rfl, rfl⟩
                      simp only [Act.put, List.setIfInBounds_toArray, List.set_cons_succ, List.set_cons_zero, Nat.reduceAdd]
                    iterate 5
                      apply walk_read1
                      · decide
                      · decide
                      · rfl
                      · intro w' hw
                        obtain F := HA1.out w' hw
                        have x1 := F.cell x1 hxg
                        have x3 := F.cell x3 hxg
                        have r0 := F.cell r0 hrg
                        have q0 := F.cell q0 hpg
                        have p7 := F.cell p7 hbg
                        have g2 := F.cell g2 hgg
                        go_simp
                        exact ⟨rfl, rfl⟩
                      simp only [Act.put, List.setIfInBounds_toArray, List.set_cons_succ, List.set_cons_zero, Nat.reduceAdd]
                    iterate 10
                      apply walk_step
                      · exact at_skip (by decide) (by decide) rfl
                      simp only [Act.put, List.setIfInBounds_toArray, List.set_cons_succ, List.set_cons_zero, Nat.reduceAdd]
                    apply walk_step
                    · exact at_not2 (by decide) rfl (fun w h => ⟨true, rfl, h⟩)
                    simp only [Act.put, List.setIfInBounds_toArray, List.set_cons_succ, List.set_cons_zero, Nat.reduceAdd]
                    apply walk_step
                    · exact at_skip (by decide) (by decide) rfl
                    simp only [Act.put, List.setIfInBounds_toArray, List.set_cons_succ, List.set_cons_zero, Nat.reduceAdd]
                    iterate 2
                      apply walk_read2
                      · decide
                      · decide
                      · rfl
                      · intro w' hw
                        go_simp
                        exact ⟨rfl, rfl⟩
                      simp only [Act.put, List.setIfInBounds_toArray, List.set_cons_succ, List.set_cons_zero, Nat.reduceAdd]
                    apply walk_nil
                    rintro w' (⟨_, hj, hc⟩ | ⟨h, _⟩)
                    rotate_left
                    · cases h
                    have HZ := Lib.hid (And.intro hj hc)
                    clear hj hc
                    gi_wp2_with fail
                    go_roundw
                    case rel => exact ⟨q + 1, by omega, by go_num, Lib.hid (by rw [wishIs_snoc Hxq.out, HE.out, ← List.append_assoc]; exact HZ.out.1), Lib.hid (HC4.out.trans HZ.out.2)⟩
                    case measure => simp [intOf]; omega
              · by_cases hD : x.dst = (r : Int)
                · have HE : Hid (wishI ps r x = [v2]) := Lib.hid (by rw [Hw.out, if_neg hA, if_pos hD]; rfl)
                  have HF : Hid (((wishBs ps r (f.blocks.take j) ++ wishIs ps r (b.list.take q)) ++ [v2]) <+: wishesL f giv ps r) := Lib.hid (wish_pre Hbj.out Hxq.out (by rw [HE.out]; exact List.prefix_refl _))
                  have heq : ∀ W, (Op.equalIn 10000 66 (.agg #[.bool true, .int .i64 x.a.n]) (.agg #[.bool true, .int .i64 (r : Int)])).run Tryz.prog W = .ok false W := fun W => by rw [eqVal]; simp [hA]
                  have hDd : (x.dst == (r : Int)) = true := by simp [hD]
                  refine wpIn_region_pick (fun w => w = W4.drew) (fun _ w => w = W4.drew) (fun _ bo w => (bo = true ∧ J ((wishBs ps r (f.blocks.take j) ++ wishIs ps r (b.list.take q)) ++ [v2]) w ∧ CellsBut g W4 w) ∨ (bo = false ∧ Jx ((wishBs ps r (f.blocks.take j) ++ wishIs ps r (b.list.take q)) ++ [v2]) w)) (fun _ => undef) (fun _ b => .bool b) 14 33 (by kernel_rfl) (by kernel_rfl) (by kernel_rfl) (by kernel_rfl) (by decide) (by decide) rfl ?_
                  intro b1 b2
                  cases b2
                  · iterate 5
                      apply walk_read0
                      · decide
                      · decide
                      · rfl
                      · intro w' hw
                        obtain rfl : w' = W4.drew := hw
                        go_simp
                        exact ⟨rfl, rfl⟩
                      simp only [Act.put, List.setIfInBounds_toArray, List.set_cons_succ, List.set_cons_zero, Nat.reduceAdd]
                    iterate 9
                      apply walk_step
                      · exact at_skip (by decide) (by decide) rfl
                      simp only [Act.put, List.setIfInBounds_toArray, List.set_cons_succ, List.set_cons_zero, Nat.reduceAdd]
                    apply walk_step
                    · exact at_not1 rfl (fun w h => ⟨true, rfl, h⟩)
                    simp only [Act.put, List.setIfInBounds_toArray, List.set_cons_succ, List.set_cons_zero, Nat.reduceAdd]
                    apply walk_step
                    · exact at_skip (by decide) (by decide) rfl
                    simp only [Act.put, List.setIfInBounds_toArray, List.set_cons_succ, List.set_cons_zero, Nat.reduceAdd]
                    iterate 17
                      apply walk_read1
                      · decide
                      · decide
                      · rfl
                      · intro w' hw
                        obtain rfl : w' = W4.drew := hw
                        go_simp
                        exact ⟨rfl, rfl⟩
                      simp only [Act.put, List.setIfInBounds_toArray, List.set_cons_succ, List.set_cons_zero, Nat.reduceAdd]
                    apply walk_step
                    · refine at_ask2 (by decide) rfl ?_
                      intro w' hw next hN
                      obtain rfl : w' = W4.drew := hw
                      obtain ⟨fn, tmps, assign, body, hy, hR⟩ := HY.out (wishBs ps r (f.blocks.take j) ++ wishIs ps r (b.list.take q)) v2 W4.drew HF.out HJd.out
                      go_simp
                      refine hR.mono ?_
                      rintro e w3 (⟨rfl, h1, h2⟩ | ⟨rfl, h1⟩)
                      · exact ⟨_, rfl, hN true w3 (.inl ⟨rfl, h1, HCd.out.trans h2⟩)⟩
                      · exact ⟨_, rfl, hN false w3 (.inr ⟨rfl, h1⟩)⟩
                    simp only [Act.put, List.setIfInBounds_toArray, List.set_cons_succ, List.set_cons_zero, Nat.reduceAdd]
                    iterate 3
                      apply walk_read2
                      · decide
                      · decide
                      · rfl
                      · intro w' hw
                        go_simp
                        exact ⟨rfl, rfl⟩
                      simp only [Act.put, List.setIfInBounds_toArray, List.set_cons_succ, List.set_cons_zero, Nat.reduceAdd]
                    apply walk_nil
                    rintro w' (⟨h, _⟩ | ⟨_, hx⟩)
                    · cases h
                    have HXx := Lib.hid hx
                    clear hx
                    gi_wp2_with fail
                    refine bodyPost_ret (results_none rfl _ _ _) rfl ?_
                    exact ⟨⟨_, rfl⟩, .inr ⟨_, HF.out, HXx.out⟩⟩
                  · iterate 5
                      apply walk_read0
                      · decide
                      · decide
                      · rfl
                      · intro w' hw
                        obtain rfl : w' = W4.drew := hw
                        go_simp
                        exact ⟨rfl, rfl⟩
                      simp only [Act.put, List.setIfInBounds_toArray, List.set_cons_succ, List.set_cons_zero, Nat.reduceAdd]
                    iterate 9
                      apply walk_step
                      · exact at_skip (by decide) (by decide) rfl
                      simp only [Act.put, List.setIfInBounds_toArray, List.set_cons_succ, List.set_cons_zero, Nat.reduceAdd]
                    apply walk_step
                    · exact at_not1 rfl (fun w h => ⟨true, rfl, h⟩)
                    simp only [Act.put, List.setIfInBounds_toArray, List.set_cons_succ, List.set_cons_zero, Nat.reduceAdd]
                    apply walk_step
                    · exact at_skip (by decide) (by decide) rfl
                    simp only [Act.put, List.setIfInBounds_toArray, List.set_cons_succ, List.set_cons_zero, Nat.reduceAdd]
                    iterate 17
                      apply walk_read1
                      · decide
                      · decide
                      · rfl
                      · intro w' hw
                        obtain rfl : w' = W4.drew := hw
                        go_simp
                        exact ⟨rfl, rfl⟩
                      simp only [Act.put, List.setIfInBounds_toArray, List.set_cons_succ, List.set_cons_zero, Nat.reduceAdd]
                    apply walk_step
                    · refine at_ask2 (by decide) rfl ?_
                      intro w' hw next hN
                      obtain rfl : w' = W4.drew := hw
                      obtain ⟨fn, tmps, assign, body, hy, hR⟩ := HY.out (wishBs ps r (f.blocks.take j) ++ wishIs ps r (b.list.take q)) v2 W4.drew HF.out HJd.out
                      go_simp
                      refine hR.mono ?_
                      rintro e w3 (⟨rfl, h1, h2⟩ | ⟨rfl, h1⟩)
                      · exact ⟨_, rfl, hN true w3 (.inl ⟨rfl, h1, HCd.out.trans h2⟩)⟩
                      · exact ⟨_, rfl, hN false w3 (.inr ⟨rfl, h1⟩)⟩
                    simp only [Act.put, List.setIfInBounds_toArray, List.set_cons_succ, List.set_cons_zero, Nat.reduceAdd]
                    iterate 3
                      apply walk_read2
                      · decide
                      · decide
                      · rfl
                      · intro w' hw
                        go_simp
                        exact ⟨rfl, rfl⟩
                      simp only [Act.put, List.setIfInBounds_toArray, List.set_cons_succ, List.set_cons_zero, Nat.reduceAdd]
                    apply walk_nil
                    rintro w' (⟨_, hj, hc⟩ | ⟨h, _⟩)
                    rotate_left
                    · cases h
                    have HZ := Lib.hid (And.intro hj hc)
                    clear hj hc
                    gi_wp2_with fail
                    go_roundw
                    case rel => exact ⟨q + 1, by omega, by go_num, Lib.hid (by rw [wishIs_snoc Hxq.out, HE.out, ← List.append_assoc]; exact HZ.out.1), Lib.hid (HC4.out.trans HZ.out.2)⟩
                    case measure => simp [intOf]; omega
                · have HE : Hid (wishI ps r x = []) := Lib.hid (by rw [Hw.out, if_neg hA, if_neg hD]; rfl)
                  have heq : ∀ W, (Op.equalIn 10000 66 (.agg #[.bool true, .int .i64 x.a.n]) (.agg #[.bool true, .int .i64 (r : Int)])).run Tryz.prog W = .ok false W := fun W => by rw [eqVal]; simp [hA]
                  have hDd : (x.dst == (r : Int)) = false := by simp [hD]
                  refine wpIn_region_pick (fun w => w = W4.drew) (fun _ w => w = W4.drew) (fun _ _ w => w = W4.drew) (fun _ => undef) (fun _ _ => undef) 14 33 (by kernel_rfl) (by kernel_rfl) (by kernel_rfl) (by kernel_rfl) (by decide) (by decide) rfl ?_
                  intro b1 b2
                  iterate 5
                    apply walk_read0
                    · decide
                    · decide
                    · rfl
                    · intro w' hw
                      obtain rfl : w' = W4.drew := hw
                      go_simp
                      exact ⟨rfl, rfl⟩
                    simp only [Act.put, List.setIfInBounds_toArray, List.set_cons_succ, List.set_cons_zero, Nat.reduceAdd]
                  iterate 9
                    apply walk_step
                    · exact at_skip (by decide) (by decide) rfl
                    simp only [Act.put, List.setIfInBounds_toArray, List.set_cons_succ, List.set_cons_zero, Nat.reduceAdd]
                  apply walk_step
                  · exact at_not1 rfl (fun w h => ⟨true, rfl, h⟩)
                  simp only [Act.put, List.setIfInBounds_toArray, List.set_cons_succ, List.set_cons_zero, Nat.reduceAdd]
                  apply walk_step
                  · exact at_skip (by decide) (by decide) rfl
                  simp only [Act.put, List.setIfInBounds_toArray, List.set_cons_succ, List.set_cons_zero, Nat.reduceAdd]
                  iterate 2
                    apply walk_read1
                    · decide
                    · decide
                    · rfl
                    · intro w' hw
                      obtain rfl : w' = W4.drew := hw
                      go_simp
                      exact ⟨rfl, rfl⟩
                    simp only [Act.put, List.setIfInBounds_toArray, List.set_cons_succ, List.set_cons_zero, Nat.reduceAdd]
                  iterate 5
                    apply walk_read1
                    · decide
                    · decide
                    · rfl
                    · intro w' hw
                      obtain rfl : w' = W4.drew := hw
                      go_simp
                      exact ⟨rfl, rfl⟩
                    simp only [Act.put, List.setIfInBounds_toArray, List.set_cons_succ, List.set_cons_zero, Nat.reduceAdd]
                  iterate 10
                    apply walk_step
                    · exact at_skip (by decide) (by decide) rfl
                    simp only [Act.put, List.setIfInBounds_toArray, List.set_cons_succ, List.set_cons_zero, Nat.reduceAdd]
                  apply walk_step
                  · exact at_not2 (by decide) rfl (fun w h => ⟨true, rfl, h⟩)
                  simp only [Act.put, List.setIfInBounds_toArray, List.set_cons_succ, List.set_cons_zero, Nat.reduceAdd]
                  apply walk_step
                  · exact at_skip (by decide) (by decide) rfl
                  simp only [Act.put, List.setIfInBounds_toArray, List.set_cons_succ, List.set_cons_zero, Nat.reduceAdd]
                  iterate 2
                    apply walk_read2
                    · decide
                    · decide
                    · rfl
                    · intro w' hw
                      obtain rfl : w' = W4.drew := hw
                      go_simp
                      exact ⟨rfl, rfl⟩
                    simp only [Act.put, List.setIfInBounds_toArray, List.set_cons_succ, List.set_cons_zero, Nat.reduceAdd]
                  apply walk_nil
                  rintro w' rfl
                  gi_wp2_with fail
                  go_roundw
                  case rel => exact ⟨q + 1, by omega, by go_num, Lib.hid (by rw [wishIs_snoc Hxq.out, HE.out, ← List.append_assoc]; exact (by rw [List.append_nil]; exact HJd.out)), Lib.hid (HC4.out.trans HCd.out)⟩
                  case measure => simp [intOf]; omega
          · have HE : Hid (wishI ps r x = []) := Lib.hid (by unfold wishI; rw [if_neg (by simp [h1])])
            have HJe : Hid (J (wishBs ps r (f.blocks.take j) ++ wishIs ps r (b.list.take (q + 1))) W4) := Lib.hid (by rw [wishIs_snoc Hxq.out, HE.out, List.append_nil]; exact HJ4.out)
            gi_wp2_with fail
            go_roundw
            case rel => exact ⟨q + 1, by omega, by go_num, HJe, HC4⟩
            case measure => simp [intOf]; omega
        · have HJe : Hid (J (wishBs ps r (f.blocks.take (j + 1))) wr) := Lib.hid (by
            have := HJq.out
            rw [List.take_of_length_le (l := b.list) (by rw [Hll.out]; omega), ← wishBs_snoc Hbj.out] at this
            exact this)
          gi_wp2_with fail
          go_roundw
          case rel => exact ⟨j + 1, by omega, by go_num, HJe, HCq⟩
          case measure => simp [intOf]; omega
    · obtain rfl : j = nb := by omega
      have HJb : Hid (J (wishBs ps r f.blocks) wr) := Lib.hid (by have := HJj.out; rw [List.take_of_length_le (by rw [Hnb.out]; exact Nat.le_refl _)] at this; exact this)
      have r0 := (HCj.out.blk HR2.out hrg).cell 0
      have q0 := (HCj.out.blk HQ2.out hpg).cell 0
      have p1 := (HCj.out.blk HD2.out hbg).cell 1
      have HJd : Hid (J (wishBs ps r f.blocks) wr.drew) := Lib.hid (abides_below HJ.out HJb.out ((Below.refl _ _).drew))
      have HCd : Hid (CellsBut g W2 wr.drew) := Lib.hid (HCj.out.trans (Below.cellsBut ((Below.refl _ _).drew)))
      clear HJj
      gi_upto_region 11 with fail
      gi_cut [90] from 78 (fun s wx => (s = .bool false ∧ Hid (J (wishBs ps r f.blocks ++ wishT f r) wx) ∧ Hid (CellsBut g W2 wx)) ∨ (s = .bool true ∧ Hid (∃ pre, pre <+: wishesL f giv ps r ∧ Jx pre wx)))
      case first =>
        by_cases hp : (r : Int) < f.params
        · have HT : Hid (wishT f r = [(r : Int)]) := Lib.hid (by unfold wishT; rw [if_pos hp])
          have HF : Hid ((wishBs ps r f.blocks ++ [(r : Int)]) <+: wishesL f giv ps r) := Lib.hid (by unfold wishesL; rw [HT.out]; exact List.prefix_append _ _)
          refine wpIn_region_pick (fun w => w = wr.drew) (fun bo w => (bo = true ∧ J (wishBs ps r f.blocks ++ [(r : Int)]) w ∧ CellsBut g wr.drew w) ∨ (bo = false ∧ Jx (wishBs ps r f.blocks ++ [(r : Int)]) w)) (fun bo _ w => (bo = true ∧ J (wishBs ps r f.blocks ++ [(r : Int)]) w ∧ CellsBut g wr.drew w) ∨ (bo = false ∧ Jx (wishBs ps r f.blocks ++ [(r : Int)]) w)) (fun b => .bool b) (fun b _ => .bool (!b)) 10 12 (by kernel_rfl) (by kernel_rfl) (by kernel_rfl) (by kernel_rfl) (by decide) (by decide) rfl ?_
          intro b1 b2
          cases b1
          · iterate 10
              apply walk_read0
              · decide
              · decide
              · rfl
              · intro w' hw
                obtain rfl : w' = wr.drew := hw
                go_simp
                exact ⟨rfl, rfl⟩
              simp only [Act.put, List.setIfInBounds_toArray, List.set_cons_succ, List.set_cons_zero, Nat.reduceAdd]
            apply walk_step
            · refine at_ask1 rfl ?_
              intro w' hw next hN
              obtain rfl : w' = wr.drew := hw
              obtain ⟨fn, tmps, assign, body, hy, hR⟩ := HY.out (wishBs ps r f.blocks) (r : Int) wr.drew HF.out HJd.out
              go_simp
              refine hR.mono ?_
              rintro e w3 (⟨rfl, h1, h2⟩ | ⟨rfl, h1⟩)
              · exact ⟨_, rfl, hN true w3 (.inl ⟨rfl, h1, h2⟩)⟩
              · exact ⟨_, rfl, hN false w3 (.inr ⟨rfl, h1⟩)⟩
            simp only [Act.put, List.setIfInBounds_toArray, List.set_cons_succ, List.set_cons_zero, Nat.reduceAdd]
            apply walk_read1
            · decide
            · decide
            · rfl
            · intro w' hw
              go_simp
              exact ⟨rfl, rfl⟩
            simp only [Act.put, List.setIfInBounds_toArray, List.set_cons_succ, List.set_cons_zero, Nat.reduceAdd]
            apply walk_step
            · refine at_ask2 (by decide) rfl ?_
              intro w' hw next hN
              go_simp
              exact hN true w' hw
            simp only [Act.put, List.setIfInBounds_toArray, List.set_cons_succ, List.set_cons_zero, Nat.reduceAdd]
            apply walk_nil
            rintro w' (⟨h, _⟩ | ⟨_, hx⟩)
            · cases h
            have HXx : Hid (∃ pre, pre <+: wishesL f giv ps r ∧ Jx pre w') := Lib.hid ⟨_, HF.out, hx⟩
            clear hx
            gi_wp2_with fail
            gi_meet
            exact .inr ⟨rfl, HXx⟩
          · iterate 10
              apply walk_read0
              · decide
              · decide
              · rfl
              · intro w' hw
                obtain rfl : w' = wr.drew := hw
                go_simp
                exact ⟨rfl, rfl⟩
              simp only [Act.put, List.setIfInBounds_toArray, List.set_cons_succ, List.set_cons_zero, Nat.reduceAdd]
            apply walk_step
            · refine at_ask1 rfl ?_
              intro w' hw next hN
              obtain rfl : w' = wr.drew := hw
              obtain ⟨fn, tmps, assign, body, hy, hR⟩ := HY.out (wishBs ps r f.blocks) (r : Int) wr.drew HF.out HJd.out
              go_simp
              refine hR.mono ?_
              rintro e w3 (⟨rfl, h1, h2⟩ | ⟨rfl, h1⟩)
              · exact ⟨_, rfl, hN true w3 (.inl ⟨rfl, h1, h2⟩)⟩
              · exact ⟨_, rfl, hN false w3 (.inr ⟨rfl, h1⟩)⟩
            simp only [Act.put, List.setIfInBounds_toArray, List.set_cons_succ, List.set_cons_zero, Nat.reduceAdd]
            apply walk_read1
            · decide
            · decide
            · rfl
            · intro w' hw
              go_simp
              exact ⟨rfl, rfl⟩
            simp only [Act.put, List.setIfInBounds_toArray, List.set_cons_succ, List.set_cons_zero, Nat.reduceAdd]
            apply walk_step
            · refine at_ask2 (by decide) rfl ?_
              intro w' hw next hN
              go_simp
              exact hN true w' hw
            simp only [Act.put, List.setIfInBounds_toArray, List.set_cons_succ, List.set_cons_zero, Nat.reduceAdd]
            apply walk_nil
            rintro w' (⟨_, hj, hc⟩ | ⟨h, _⟩)
            rotate_left
            · cases h
            have HZ : Hid (J (wishBs ps r f.blocks ++ wishT f r) w') := Lib.hid (by rw [HT.out]; exact hj)
            have HZc : Hid (CellsBut g W2 w') := Lib.hid (HCd.out.trans hc)
            clear hj hc
            gi_wp2_with fail
            gi_meet
            exact .inl ⟨rfl, HZ, HZc⟩
        · have HT : Hid (J (wishBs ps r f.blocks ++ wishT f r) wr.drew) := Lib.hid (by unfold wishT; rw [if_neg hp, List.append_nil]; exact HJd.out)
          refine wpIn_region_pick (fun w => w = wr.drew) (fun _ w => w = wr.drew) (fun _ _ w => w = wr.drew) (fun _ => undef) (fun _ _ => .bool false) 10 12 (by kernel_rfl) (by kernel_rfl) (by kernel_rfl) (by kernel_rfl) (by decide) (by decide) rfl ?_
          intro b1 b2
          iterate 8
            apply walk_read0
            · decide
            · decide
            · rfl
            · intro w' hw
              obtain rfl : w' = wr.drew := hw
              go_simp
              exact ⟨rfl, rfl⟩
            simp only [Act.put, List.setIfInBounds_toArray, List.set_cons_succ, List.set_cons_zero, Nat.reduceAdd]
          iterate 2
            apply walk_step
            · exact at_skip (by decide) (by decide) rfl
            simp only [Act.put, List.setIfInBounds_toArray, List.set_cons_succ, List.set_cons_zero, Nat.reduceAdd]
          apply walk_step
          · exact at_not1 rfl (fun w h => ⟨true, rfl, h⟩)
          simp only [Act.put, List.setIfInBounds_toArray, List.set_cons_succ, List.set_cons_zero, Nat.reduceAdd]
          apply walk_step
          · exact at_skip (by decide) (by decide) rfl
          simp only [Act.put, List.setIfInBounds_toArray, List.set_cons_succ, List.set_cons_zero, Nat.reduceAdd]
          apply walk_step
          · refine at_ask2 (by decide) rfl ?_
            intro w' hw next hN
            obtain rfl : w' = wr.drew := hw
            go_simp
            exact hN true _ rfl
          simp only [Act.put, List.setIfInBounds_toArray, List.set_cons_succ, List.set_cons_zero, Nat.reduceAdd]
          apply walk_nil
          rintro w' rfl
          gi_wp2_with fail
          gi_meet
          exact .inl ⟨rfl, HT, HCd⟩
      case rest =>
        clear HJd HCd HJb HCj r0 q0 p1
        rcases hcut with ⟨rfl, HP1, HC1⟩ | ⟨rfl, HP1⟩
        · obtain ⟨gA, gc, hgv, hg1, hg2, hg3⟩ := HP.out.giv
          obtain ⟨gl, hgl⟩ : ∃ gl, giv.length = gl := ⟨_, rfl⟩
          have Hgl := Lib.hid hgl
          have HG3 := Lib.hid hg3
          have q0 := (HC1.out.blk HQ2.out hpg).cell 0
          have p6 := (HC1.out.blk HD2.out hbg).cell 6
          subst hgv
          rw [hgl] at p6 hg1
          clear hg3 hgl
          have hgl63 : gl ≤ 9223372036854775807 := by omega
          gi_upto_region 13 with fail
          gi_loopw [96] (fun i wx => ∃ k : Nat, k ≤ gl ∧ i = .int .i64 k ∧ Hid (J (wishBs ps r f.blocks ++ wishT f r ++ giv.take k) wx) ∧ Hid (CellsBut g W2 wx)) (fun i _ => gl - (intOf i).toNat)
          case atStart => exact ⟨0, Nat.zero_le _, rfl, Lib.hid (by rw [List.take_zero, List.append_nil]; exact HP1.out), HC1⟩
          case round =>
            obtain ⟨k, hk, rfl, HJk, HCk⟩ := hrel
            clear q0 p6 HP1 HC1
            by_cases hlt : k < gl
            · have hk0 : (0 : Int) ≤ (k : Int) := Int.natCast_nonneg k
              have hk1 : (k : Int) < (gl : Int) := by omega
              obtain ⟨v, hv⟩ : ∃ v, giv[k]? = some v := ⟨giv[k]'(by rw [Hgl.out]; exact hlt), List.getElem?_eq_getElem _⟩
              obtain ⟨ab, ao, rfl, hab, hcell⟩ := HG3.out (by rw [Hgl.out]; omega)
              have c0 := HCk.out.cell (HCell.out _ _ _ hab (hcell k v hv)) (by omega)
              have HT2 : Hid (giv.take (k + 1) = giv.take k ++ [v]) := Lib.hid (by
                obtain ⟨h1, h2⟩ := List.getElem?_eq_some_iff.1 hv
                rw [List.take_succ_eq_append_getElem h1, h2])
              have HF : Hid ((wishBs ps r f.blocks ++ wishT f r ++ giv.take k ++ [v]) <+: wishesL f giv ps r) := Lib.hid (by
                unfold wishesL
                refine ⟨giv.drop (k + 1), ?_⟩
                rw [List.append_assoc (wishBs ps r f.blocks ++ wishT f r), ← HT2.out, List.append_assoc, List.take_append_drop])
              obtain ⟨fn, tmps, assign, body, hy, hR⟩ := HY.out _ v wr HF.out HJk.out
              clear hcell hv
              gi_wp2_with fail
              refine hR.mono ?_
              rintro e W3 (⟨rfl, hJ3, hk3⟩ | ⟨rfl, hJx3⟩)
              · have HJ3 : Hid (J (wishBs ps r f.blocks ++ wishT f r ++ giv.take (k + 1)) W3) := Lib.hid (by rw [HT2.out, ← List.append_assoc]; exact hJ3)
                have HC3 := Lib.hid (HCk.out.trans hk3)
                clear hJ3 hk3 hy hR
                gi_wp2_with fail
                go_roundw
                case rel => exact ⟨k + 1, by omega, by go_num, HJ3, HC3⟩
                case measure => simp [intOf]; omega
              · have HXx := Lib.hid hJx3
                clear hJx3 hy hR
                gi_wp2_with fail
                refine bodyPost_ret (results_none rfl _ _ _) rfl ?_
                exact ⟨⟨_, rfl⟩, .inr ⟨_, HF.out, HXx.out⟩⟩
            · have HE : Hid (J (wishesL f giv ps r) wr) := Lib.hid (by
                have := HJk.out
                rw [List.take_of_length_le (l := giv) (by rw [Hgl.out]; omega)] at this
                exact this)
              gi_wp2_with fail
              go_end0
              exact ⟨⟨_, rfl⟩, .inl ⟨_, rfl, HE.out⟩⟩
        · gi_wp2_with fail
          refine bodyPost_ret (results_none rfl _ _ _) rfl ?_
          obtain ⟨pre, hp1, hp2⟩ := HP1.out
          exact ⟨⟨_, rfl⟩, .inr ⟨pre, hp1, hp2⟩⟩
end Go.Proofs.YtiknhfbkphoceaaGreatDoor
