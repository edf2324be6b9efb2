/-
  A unit of one function of one block, laid by a law; the law ColourMerged.
  Conditions: as the theorems say.
-/
import Derived.Test.YtkkllflbepcimaaDoorCoS
import Derived.BigQuiet
import Derived.BigRegion
namespace Go.Proofs.YtkkllflbepcimaaDoor
open Go.RowKit
attribute [local go_sem] Oper.semAt_some

theorem read_ok {i : Nat} (h : i ≤ 100) : (readI i).ok := ⟨(show I64 (21 : Int) from i64_small (by decide)), i64_small ⟨by show -1000 ≤ (i : Int); omega, by show (i : Int) ≤ 1000; omega⟩, ⟨(show I64 (0 : Int) from i64_small (by decide))⟩, ⟨(show I64 (0 : Int) from i64_small (by decide))⟩, (show I64 (0 : Int) from i64_small (by decide)), fun o ho => (by cases ho)⟩
theorem copy_ok {i : Nat} (h : i ≤ 100) : (copyI i).ok := ⟨(show I64 (1 : Int) from i64_small (by decide)), i64_small ⟨by show -1000 ≤ (i : Int) + 1; omega, by show (i : Int) + 1 ≤ 1000; omega⟩, ⟨i64_small ⟨by show -1000 ≤ (i : Int); omega, by show (i : Int) ≤ 1000; omega⟩⟩, ⟨(show I64 (0 : Int) from i64_small (by decide))⟩, (show I64 (0 : Int) from i64_small (by decide)), fun o ho => (by cases ho)⟩
theorem print_ok {i : Nat} (h : i ≤ 100) : (printI i).ok := ⟨(show I64 (22 : Int) from i64_small (by decide)), (show I64 (-1 : Int) from i64_small (by decide)), ⟨i64_small ⟨by show -1000 ≤ (i : Int); omega, by show (i : Int) ≤ 1000; omega⟩⟩, ⟨(show I64 (0 : Int) from i64_small (by decide))⟩, (show I64 (0 : Int) from i64_small (by decide)), fun o ho => (by cases ho)⟩
/-- A unit of one function of one block, in the two newest blocks. -/
theorem alone_unit {W : World} {lv : Value} {xs : List InsU} {on : Opd} {regs : Int} (hx : InssAt W W.heap.size lv xs) (hW : Ways W) (hok : ∀ x ∈ xs, x.ok) (hon : on.ok) (hr : I64 regs) :
    UnitAt ((W.alloc (.cells #[.slice none 0 0, lv, .int .i64 1, .bool on.reg, .int .i64 on.n, .slice none 0 0] 34)).alloc (.cells #[.string mainName, .int .i64 0, .int .i64 regs, .slice (some ⟨W.heap.size, 0, none⟩) 1 1] 41))
      ((W.alloc (.cells #[.slice none 0 0, lv, .int .i64 1, .bool on.reg, .int .i64 on.n, .slice none 0 0] 34)).alloc (.cells #[.string mainName, .int .i64 0, .int .i64 regs, .slice (some ⟨W.heap.size, 0, none⟩) 1 1] 41)).heap.size
      (.slice none 0 0) (.slice (some ⟨W.heap.size + 1, 0, none⟩) 1 1) [] [⟨mainName, 0, regs, [⟨[], xs, 1, on, []⟩]⟩] := by
  obtain ⟨W2, hW2⟩ : ∃ W2, (W.alloc (.cells #[.slice none 0 0, lv, .int .i64 1, .bool on.reg, .int .i64 on.n, .slice none 0 0] 34)).alloc (.cells #[.string mainName, .int .i64 0, .int .i64 regs, .slice (some ⟨W.heap.size, 0, none⟩) 1 1] 41) = W2 := ⟨_, rfl⟩
  have hB : Below W.heap.size W W2 := by rw [← hW2]; exact ((Below.refl _ _).alloc (Nat.le_refl _) _).alloc (by simp) _
  have h1 : Blk W2 W.heap.size 34 #[.slice none 0 0, lv, .int .i64 1, .bool on.reg, .int .i64 on.n, .slice none 0 0] := by rw [← hW2]; exact (Blk.new _ _ _).alloc _
  have h2 : Blk W2 (W.heap.size + 1) 41 #[.string mainName, .int .i64 0, .int .i64 regs, .slice (some ⟨W.heap.size, 0, none⟩) 1 1] := by
    have := Blk.new (W.alloc (.cells #[.slice none 0 0, lv, .int .i64 1, .bool on.reg, .int .i64 on.n, .slice none 0 0] 34)) 41 #[.string mainName, .int .i64 0, .int .i64 regs, .slice (some ⟨W.heap.size, 0, none⟩) 1 1]
    rw [World.size_alloc, hW2] at this
    exact this
  rw [hW2]
  have hI : InssAt W2 W2.heap.size lv xs := hx.move hB.size (kept_of hB (Nat.le_refl _))
  have hBk : BlksAt W2 W2.heap.size (.slice (some ⟨W.heap.size, 0, none⟩) 1 1) [⟨[], xs, 1, on, []⟩] := by
    refine sl_lit 1 rfl h1 h1.lt (by omega) (fun k x hx => ?_)
    have hk := (List.getElem?_eq_some_iff.1 hx).1
    obtain rfl : k = 0 := by simp at hk; exact hk
    cases hx
    exact ⟨_, ⟨_, _, _, rfl, SlAt.nil _ _, hI, ints_none _ _⟩, fun j u hu => cells_nth (by rfl) j u hu⟩
  have hF : FunsAt W2 W2.heap.size (.slice (some ⟨W.heap.size + 1, 0, none⟩) 1 1) [⟨mainName, 0, regs, [⟨[], xs, 1, on, []⟩]⟩] := by
    refine sl_lit 1 rfl h2 h2.lt (by omega) (fun k x hx => ?_)
    have hk := (List.getElem?_eq_some_iff.1 hx).1
    obtain rfl : k = 0 := by simp at hk; exact hk
    cases hx
    exact ⟨_, ⟨_, rfl, hBk⟩, fun j u hu => cells_nth (by rfl) j u hu⟩
  refine ⟨globs_none _ _, hF, fun g hg => (by cases hg), fun f hf => ?_, hW.own hB, (hW.own hB).lt, Nat.le_refl _⟩
  simp only [List.mem_cons, List.not_mem_nil, or_false] at hf
  subst hf
  refine ⟨(show mainName.size ≤ 9223372036854775807 by decide), (show I64 (0 : Int) from i64_small (by decide)), hr, fun b hb => ?_⟩
  simp only [List.mem_cons, List.not_mem_nil, or_false] at hb
  subst hb
  exact ⟨fun p hp => (by cases hp), hok, (show I64 (1 : Int) from i64_small (by decide)), hon, fun n hn => (by cases hn)⟩

theorem chain_snoc (k : Nat) : chainL (k + 1) = chainL k ++ [copyI k] := by
  unfold chainL
  rw [List.range_succ, List.map_append, List.cons_append]
  rfl
theorem chain_len (n : Nat) : (chainL n).length = n + 1 := by simp [chainL]
theorem chain_args (n : Nat) : ∀ x ∈ chainL n, x.args.length ≤ 1000 := fun x hx => by
  rcases List.mem_cons.1 hx with rfl | hx
  · simp [readI]
  · obtain ⟨k, _, rfl⟩ := List.mem_map.1 hx
    simp [copyI]
/-- The row of a block's instructions grows by one that has no arguments. -/
theorem inss_snoc {w w' : World} {base H : Nat} {v v' : Value} {ys : List (InsU × Value)} {x : InsU} (h2 : w.ownsRow base 27 8 v ys.length (ys.flatMap insK)) (h3 : ∀ (i : Nat) (y : InsU × Value), ys[i]? = some y → OwnOpds w base y.2 y.1.args)
    (hx : x.args = []) (ha : Appended w base 27 8 v (ys.length + 1) (ys.flatMap insK ++ insK (x, .slice none 0 0)) H v' w') : OwnInss w' base v' (ys.map Prod.fst ++ [x]) :=
  OwnInss.snoc (y := (x, .slice none 0 0)) h2 h3 (by rw [hx]; exact OwnOpds.nil _ _) ha
theorem infoIn : (Tryd.prog.info? 27).map (fun i => (i.zero, i.size, i.bytes)) = some (some (.agg #[.int .i64 0, .int .i64 0, .bool false, .int .i64 0, .bool false, .int .i64 0, .int .i64 0, .slice none 0 0]), 8, 80) := by kernel_rfl
/-- A block of memory that a row of instructions fills whole. -/
theorem inss_of_blk {w : World} {base g : Nat} {x : InsU} (hx : x.args = []) (h : Blk w g 27 #[.int .i64 x.op, .int .i64 x.dst, .bool x.a.reg, .int .i64 x.a.n, .bool x.b.reg, .int .i64 x.b.n, .int .i64 x.fn, .slice none 0 0]) (hb : base ≤ g) : OwnInss w base (.slice (some ⟨g, 0, none⟩) 1 1) [x] := by
  refine ⟨[(x, .slice none 0 0)], rfl, ⟨rfl, .inr ⟨g, 1, _, rfl, hb, h, Nat.le_refl _, by unfold maxLen; omega, rfl, rfl⟩⟩, fun i y hy => ?_⟩
  have hi := (List.getElem?_eq_some_iff.1 hy).1
  obtain rfl : i = 0 := by simp at hi; exact hi
  obtain rfl : (x, Value.slice none 0 0) = y := Option.some.inj hy
  show OwnOpds w base (.slice none 0 0) x.args
  rw [hx]
  exact OwnOpds.nil _ _
set_option maxRecDepth 100000 in
set_option maxHeartbeats 8000000 in
theorem ColourMerged_any (many long : Int) (w : World) (hm : I64 many) (hl : I64 long) (hW : Ways w) :
    Calls Tryd.prog 3 #[.int .i64 many, .int .i64 long] w fun e w' => e = .returned (.bool true) ∧ Below w.heap.size w w' := by
  have HWa := Lib.hid hW
  have HP1 := Lib.hid (pickOf_any many 13 w (by decide) (by decide) hm)
  have HP2 := Lib.hid (pickOf_any long 20 w (by decide) (by decide) hl)
  obtain ⟨mm, hmm⟩ : ∃ mm : Nat, 2 + many % 13 = (mm : Int) := ⟨(2 + many % 13).toNat, by omega⟩
  have hmm1 : 2 ≤ mm := by omega
  have hmm2 : mm ≤ 14 := by omega
  obtain ⟨n, hn⟩ : ∃ n : Nat, 1 + long % 20 = (n : Int) := ⟨(1 + long % 20).toNat, by omega⟩
  have hn1 : 1 ≤ n := by omega
  have hn2 : n ≤ 20 := by omega
  have HB1 : Hid (Below w.heap.size w ((w.alloc (.cells #[.int .i64 21, .int .i64 0, .bool false, .int .i64 0, .bool false, .int .i64 0, .int .i64 0, .slice none 0 0] 27)).alloc (.cells #[.slice none 0 0, .slice (some ⟨w.heap.size, 0, none⟩) 1 1, .int .i64 0, .bool false, .int .i64 0, .slice none 0 0] 34))) :=
    Lib.hid (((Below.refl _ _).alloc (Nat.le_refl _) _).alloc (by simp) _)
  have HL1 : Hid (OwnInss ((w.alloc (.cells #[.int .i64 21, .int .i64 0, .bool false, .int .i64 0, .bool false, .int .i64 0, .int .i64 0, .slice none 0 0] 27)).alloc (.cells #[.slice none 0 0, .slice (some ⟨w.heap.size, 0, none⟩) 1 1, .int .i64 0, .bool false, .int .i64 0, .slice none 0 0] 34)) w.heap.size (.slice (some ⟨w.heap.size, 0, none⟩) 1 1) (chainL 0)) :=
    Lib.hid (inss_of_blk (x := readI 0) rfl ((Blk.new _ _ _).alloc _) (Nat.le_refl _))
  have HK1 : Hid (Blk ((w.alloc (.cells #[.int .i64 21, .int .i64 0, .bool false, .int .i64 0, .bool false, .int .i64 0, .int .i64 0, .slice none 0 0] 27)).alloc (.cells #[.slice none 0 0, .slice (some ⟨w.heap.size, 0, none⟩) 1 1, .int .i64 0, .bool false, .int .i64 0, .slice none 0 0] 34)) (w.heap.size + 1) 34 #[.slice none 0 0, .slice (some ⟨w.heap.size, 0, none⟩) 1 1, .int .i64 0, .bool false, .int .i64 0, .slice none 0 0]) := Lib.hid (by
    have := Blk.new (w.alloc (.cells #[.int .i64 21, .int .i64 0, .bool false, .int .i64 0, .bool false, .int .i64 0, .int .i64 0, .slice none 0 0] 27)) 34 #[.slice none 0 0, .slice (some ⟨w.heap.size, 0, none⟩) 1 1, .int .i64 0, .bool false, .int .i64 0, .slice none 0 0]
    rwa [World.size_alloc] at this)
  clear hm hl hW
  go_enter Tryd.func3, Tryd.ntmps3
  go_wp2_with fail
  refine HP1.out.mono ?_
  rintro e w' ⟨rfl, rfl⟩
  go_wp2_with fail
  refine HP2.out.mono ?_
  rintro e w' ⟨rfl, rfl⟩
  go_upto_region 5 with fail
  generalize (w.alloc (.cells #[.int .i64 21, .int .i64 0, .bool false, .int .i64 0, .bool false, .int .i64 0, .int .i64 0, .slice none 0 0] 27)).alloc (.cells #[.slice none 0 0, .slice (some ⟨w.heap.size, 0, none⟩) 1 1, .int .i64 0, .bool false, .int .i64 0, .slice none 0 0] 34) = W1 at *
  generalize hg7 : w.heap.size + 1 = g7 at *
  have Hg7 : Hid (w.heap.size ≤ g7) := Lib.hid (by omega)
  clear hg7
  go_loopg [8] n (fun gk iv wr => ∃ (k : Nat) (lv : Value), k + gk = n ∧ iv = .int .i64 ((k : Int) + 1) ∧ Hid (OwnInss wr w.heap.size lv (chainL k)) ∧ Hid (Blk wr g7 34 #[.slice none 0 0, lv, .int .i64 0, .bool false, .int .i64 0, .slice none 0 0]) ∧ Hid (Below w.heap.size w wr))
  case atStart => exact ⟨0, _, by omega, by go_num, HL1, HK1, HB1⟩
  case round =>
    obtain ⟨k, lv, hk, rfl, HL, HK, HB⟩ := hrel
    clear HL1 HK1 HB1
    have k1 := HK.out.cell 1
    have z1 := HK.out.frozen 1
    have hz := HB.out.size
    rcases gk with _ | mk
    · have hkn : n = k := by omega
      subst hkn
      have hkt : ¬ (n : Int) + 1 ≤ (n : Int) := by omega
      have k2 := HK.out.cell 2
      have k3 := HK.out.cell 3
      have k4 := HK.out.cell 4
      have k5 := HK.out.cell 5
      have z2 := HK.out.frozen 2
      have z3 := HK.out.frozen 3
      have z4 := HK.out.frozen 4
      have z5 := HK.out.frozen 5
      obtain ⟨lA, lc, rfl⟩ := HL.out.form
      have HK2 : Hid (Blk ((((wr.setCell ⟨g7, 2, none⟩ (.int .i64 1)).setCell ⟨g7, 3, none⟩ (.bool true)).setCell ⟨g7, 4, none⟩ (.int .i64 (n : Int))).setCell ⟨g7, 5, none⟩ (.slice none 0 0)) g7 34 #[.slice none 0 0, .slice lA (chainL n).length lc, .int .i64 1, .bool true, .int .i64 (n : Int), .slice none 0 0]) :=
        Lib.hid ((((HK.out.set_ 2 (.int .i64 1)).set_ 3 (.bool true)).set_ 4 (.int .i64 (n : Int))).set_ 5 (.slice none 0 0))
      have HL2 : Hid (OwnInss ((((wr.setCell ⟨g7, 2, none⟩ (.int .i64 1)).setCell ⟨g7, 3, none⟩ (.bool true)).setCell ⟨g7, 4, none⟩ (.int .i64 (n : Int))).setCell ⟨g7, 5, none⟩ (.slice none 0 0)) w.heap.size (.slice lA (chainL n).length lc) (chainL n)) :=
        Lib.hid ((((HL.out.far HK.out (by decide) (by decide) _ _).far (HK.out.set_ 2 (.int .i64 1)) (by decide) (by decide) _ _).far ((HK.out.set_ 2 (.int .i64 1)).set_ 3 (.bool true)) (by decide) (by decide) _ _).far (((HK.out.set_ 2 (.int .i64 1)).set_ 3 (.bool true)).set_ 4 (.int .i64 (n : Int))) (by decide) (by decide) _ _)
      have HB2 : Hid (Below w.heap.size w ((((wr.setCell ⟨g7, 2, none⟩ (.int .i64 1)).setCell ⟨g7, 3, none⟩ (.bool true)).setCell ⟨g7, 4, none⟩ (.int .i64 (n : Int))).setCell ⟨g7, 5, none⟩ (.slice none 0 0))) :=
        Lib.hid ((((HB.out.setCell Hg7.out _).setCell Hg7.out _).setCell Hg7.out _).setCell Hg7.out _)
      clear HL
      go_upto_region 9 with fail
      generalize (((wr.setCell ⟨g7, 2, none⟩ (.int .i64 1)).setCell ⟨g7, 3, none⟩ (.bool true)).setCell ⟨g7, 4, none⟩ (.int .i64 (n : Int))).setCell ⟨g7, 5, none⟩ (.slice none 0 0) = W2 at *
      clear k1 z1 k2 k3 k4 k5 z2 z3 z4 z5 HK HB hz
      have k0 := HK2.out.cell 0
      have k1 := HK2.out.cell 1
      have k2 := HK2.out.cell 2
      have k3 := HK2.out.cell 3
      have k4 := HK2.out.cell 4
      have k5 := HK2.out.cell 5
      have hu := alone_unit (on := ⟨true, (n : Int)⟩) (regs := (n : Int) + 1) (HL2.out.at_ (by rw [chain_len]; omega) (chain_args n)) (HWa.out.own HB2.out) (fun x hx => by
        rcases List.mem_cons.1 hx with rfl | hx
        · exact read_ok (by omega)
        · obtain ⟨i, hi, rfl⟩ := List.mem_map.1 hx
          have := List.mem_range.1 hi
          exact copy_ok (by omega)) ⟨i64_small ⟨by show -1000 ≤ (n : Int); omega, by show (n : Int) ≤ 1000; omega⟩⟩ (i64_small ⟨by omega, by omega⟩)
      have HCo := Lib.hid (Colour_any _ _ [] [chainF n] 0 (mm : Int) _ (i64_small (by decide)) hu)
      have HB3 : Hid (Below w.heap.size w ((W2.alloc (.cells #[.slice none 0 0, .slice lA (chainL n).length lc, .int .i64 1, .bool true, .int .i64 (n : Int), .slice none 0 0] 34)).alloc (.cells #[.string mainName, .int .i64 0, .int .i64 ((n : Int) + 1), .slice (some ⟨W2.heap.size, 0, none⟩) 1 1] 41))) :=
        Lib.hid ((HB2.out.alloc HB2.out.size _).alloc (by simp; exact Nat.le_succ_of_le HB2.out.size) _)
      clear hu
      go_wp2_with fail
      refine HCo.out.mono ?_
      rintro e W3 ⟨pv, ps, rfl, hpv, hb3, _, hcol⟩
      have hcl := one_clash (f := chainF n) (b := chainB n) (chain_unit hn2) rfl rfl
      have hcf : colF [] [chainF n] 0 (mm : Int) = (0, 0) := by
        unfold colF
        rw [hcl, if_neg (by simp), if_neg (by omega)]
      rw [hcf] at hcol ⊢
      have hplc := chain_places hn2 hmm1 hmm2 (by
        have h := hcol rfl (chainF n) rfl
        rw [Int.toNat_natCast, show (chainF n).regs.toNat = n + 1 by show ((n : Int) + 1).toNat = n + 1; omega] at h
        exact h)
      have hz3 := HB3.out.size
      have HB4 : Hid (Below w.heap.size w (W3.alloc (.cells #[.int .i64 0, .int .i64 0] 36))) := Lib.hid ((HB3.out.trans (hb3.mono hz3)).alloc (Nat.le_trans hz3 hb3.size) _)
      have HF4 : Hid (Blk (W3.alloc (.cells #[.int .i64 0, .int .i64 0] 36)) W3.heap.size 36 #[.int .i64 0, .int .i64 0]) := Lib.hid (Blk.new _ _ _)
      have hp4 := (hpv.below (w' := W3.alloc (.cells #[.int .i64 0, .int .i64 0] 36)) ((Below.refl _ _).alloc (Nat.le_refl _) _) rfl).ints
      obtain ⟨pA, pc, rfl, _, _, hcell⟩ := hp4
      have Hpl := Lib.hid hplc
      rw [hplc.1] at hcell ⊢
      obtain ⟨pb, po, rfl, _, hcell⟩ := hcell (by omega)
      have HCe : Hid (∀ i : Nat, i ≤ n → (W3.alloc (.cells #[.int .i64 0, .int .i64 0] 36)).cell? ⟨pb, po + i, none⟩ = some (.int .i64 0)) := Lib.hid (fun i hi => hcell i 0 (hplc.2 i hi))
      clear hcol hcf hcl hplc hcell hb3 hz3 hpv HB2 HB3 HK2 HL2 HCo k0 k1 k2 k3 k4 k5
      go_upto_region 10 with fail
      generalize W3.alloc (.cells #[.int .i64 0, .int .i64 0] 36) = W4 at *
      generalize W3.heap.size = g10 at *
      have x0 := HF4.out.cell 0
      go_upto_region 13 with fail
      clear x0
      go_loopg [11] (n + 1) (fun gk iv wz => ∃ i : Nat, i + gk = n + 1 ∧ iv = .int .i64 (i : Int) ∧ Hid (∀ i : Nat, i ≤ n → wz.cell? ⟨pb, po + i, none⟩ = some (.int .i64 0)) ∧ Hid (Below w.heap.size w wz))
      case atStart => exact ⟨0, by omega, rfl, HCe, HB4⟩
      case round =>
        obtain ⟨i, hi, rfl, HCi, HBi⟩ := hrel
        clear HCe HB4 HF4
        rcases gk with _ | zk
        · have hit : ¬ (i : Int) ≤ (n : Int) := by omega
          go_wp2_with fail
          go_ret
          exact ⟨rfl, HBi.out⟩
        · have hit : (i : Int) ≤ (n : Int) := by omega
          have hi0 : (0 : Int) ≤ (i : Int) := Int.natCast_nonneg i
          have hi1 : (i : Int) < ((n + 1 : Nat) : Int) := by omega
          have c0 := HCi.out 0 (by omega)
          have ci := HCi.out i (by omega)
          rw [Nat.add_zero] at c0
          have HC5 : Hid (∀ m, ∀ i : Nat, i ≤ n → (wr.drewN m).cell? ⟨pb, po + i, none⟩ = some (.int .i64 0)) := Lib.hid (fun m i hi => HCi.out i hi)
          have HB5 : Hid (∀ m, Below w.heap.size w (wr.drewN m)) := Lib.hid (fun m => below_drewN HBi.out m)
          go_upto_region 15 with fail
          go_quiet (fail)
          go_wp2_with fail
          go_roundg zk
          case measure => omega
          case rel => exact ⟨i + 1, by omega, by go_num, Lib.hid (HC5.out _), Lib.hid (HB5.out _)⟩
    · have hkt : (k : Int) + 1 ≤ (n : Int) := by omega
      obtain ⟨ys, hys, hrow, hops⟩ := HL.out
      have hyl : ys.length ≤ 100 := by
        have := congrArg List.length hys
        rw [List.length_map, chain_len] at this
        omega
      have Hrow := Lib.hid hrow
      have Hops := Lib.hid hops
      have Hys := Lib.hid hys
      clear hrow hops hys
      go_wp2_with (at_builtin; refine app_one rfl _ _ 28 27 rfl (.agg #[.int .i64 0, .int .i64 0, .bool false, .int .i64 0, .bool false, .int .i64 0, .int .i64 0, .slice none 0 0]) 8 80 Tryd.underlying28 infoIn rfl (by decide) (by decide) w.heap.size _ _ _ (by rfl) Hrow.out _ [.int .i64 1, .int .i64 ((k : Int) + 1), .bool true, .int .i64 (k : Int), .bool false, .int .i64 0, .int .i64 0, .slice none 0 0] (by rfl) rfl (fun x hx => by simp only [List.mem_cons, List.not_mem_nil, or_false] at hx; rcases hx with rfl | rfl | rfl | rfl | rfl | rfl | rfl | rfl <;> rfl) rfl (by omega) hz ?_; intro v5 w5 HA5; obtain ⟨A5, c5, rfl⟩ := row_form HA5.out.own; have HK5 := Lib.hid (HA5.out.blk Hrow.out HK.out (by decide)); have k1 := HK5.out.cell 1; have z1 := HK5.out.frozen 1)
      have HL5 : Hid (OwnInss w5 w.heap.size (.slice A5 (ys.length + 1) c5) (chainL (k + 1))) := Lib.hid (by
        rw [chain_snoc, ← Hys.out]
        exact inss_snoc Hrow.out Hops.out rfl HA5.out)
      have HL6 : Hid (OwnInss (w5.setCell ⟨g7, 1, none⟩ (.slice A5 (ys.length + 1) c5)) w.heap.size (.slice A5 (ys.length + 1) c5) (chainL (k + 1))) := Lib.hid (HL5.out.far HK5.out (by decide) (by decide) _ _)
      have HK6 : Hid (Blk (w5.setCell ⟨g7, 1, none⟩ (.slice A5 (ys.length + 1) c5)) g7 34 #[.slice none 0 0, .slice A5 (ys.length + 1) c5, .int .i64 0, .bool false, .int .i64 0, .slice none 0 0]) := Lib.hid (HK5.out.set_ 1 _)
      have HB6 : Hid (Below w.heap.size w (w5.setCell ⟨g7, 1, none⟩ (.slice A5 (ys.length + 1) c5))) := Lib.hid ((HB.out.trans HA5.out.below).setCell Hg7.out _)
      go_roundg mk
      case measure => omega
      case rel => exact ⟨k + 1, _, by omega, by go_num, HL6, HK6, HB6⟩
end Go.Proofs.YtkkllflbepcimaaDoor
