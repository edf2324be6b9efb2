/-
  Several texts in one (UoA UoB): what each proves stands at its theorems.
  Conditions: as the theorems say.
-/
import Derived.Test.YtkkllflbepcimaaGreatDoorUnY
import Derived.Deep.QuietTactic
import Derived.BigQuiet
namespace Go.Proofs.YtkkllflbepcimaaGreatDoor
open Go.RowKit

theorem manyU_take (bs : List BlkU) (j : Nat) : manyU (bs.take j) ≤ manyU bs := by
  have e : manyU bs = manyU (bs.take j) + manyU (bs.drop j) := by
    unfold manyU
    rw [← List.sum_append, ← List.map_append, List.take_append_drop]
  omega
/-- Is a unit larger than is looked at? -/
def heavyF (fs : List FunU) : Bool := (fs.any fun f => decide (24 < f.blocks.length) || decide (120 < manyU f.blocks)) || decide (10 < fs.length)
theorem heavy_hit {fs : List FunU} {k : Nat} {f : FunU} (hk : fs[k]? = some f) (h : 24 < f.blocks.length ∨ 120 < manyU f.blocks) : heavyF fs = true := by
  unfold heavyF
  rw [Bool.or_eq_true, List.any_eq_true]
  exact .inl ⟨f, List.mem_of_getElem? hk, by simpa using h⟩
theorem heavy_no {fs : List FunU} (h : ∀ (k : Nat) (f : FunU), fs[k]? = some f → ¬ (24 < f.blocks.length ∨ 120 < manyU f.blocks)) : heavyF fs = decide (10 < fs.length) := by
  unfold heavyF
  have : (fs.any fun f => decide (24 < f.blocks.length) || decide (120 < manyU f.blocks)) = false := by
    rw [List.any_eq_false]
    intro f hf
    obtain ⟨k, hk⟩ := List.getElem?_of_mem hf
    simpa using h k f hk
  rw [this, Bool.false_or]
set_option maxRecDepth 100000 in
set_option maxHeartbeats 4000000 in
theorem Heavy_any (gv fv : Value) (gs : List Glob) (fs : List FunU) (w : World) (hu : UnitAt w w.heap.size gv fv gs fs) (hok : UnitOk gs fs) :
    Calls Tryz.prog 31 #[.agg #[gv, fv]] w fun e w' => e = .returned (.bool (heavyF fs)) ∧ Below w.heap.size w w' := by
  have HU := Lib.hid hu
  obtain ⟨A, c, rfl, hl1, hl2⟩ := SlAt.form hu.funs
  obtain ⟨l, hl⟩ : ∃ l, fs.length = l := ⟨_, rfl⟩
  rw [hl] at HU hl1 ⊢
  have Hl := Lib.hid hl
  have Hok := Lib.hid hok
  have hl10 : l ≤ 10 := by have := hok.funs; omega
  have HB0 : Hid (Below w.heap.size w (w.alloc (.cells #[gv, .slice A l c] 25))) := Lib.hid ((Below.refl _ _).alloc (Nat.le_refl _) _)
  have HC0 : Hid (Blk (w.alloc (.cells #[gv, .slice A l c] 25)) w.heap.size 25 #[gv, .slice A l c]) := Lib.hid (Blk.new w _ _)
  clear hu hok hl
  go_enter Tryz.func31, Tryz.ntmps31
  go_wp2_with fail
  generalize w.alloc (.cells #[gv, .slice A l c] 25) = W0 at *
  go_loopg [3] l (fun gk i wr => ∃ k : Nat, k + gk = l ∧ i = .int .i64 k ∧ Hid (∀ (j : Nat) (f : FunU), j < k → fs[j]? = some f → ¬ (24 < f.blocks.length ∨ 120 < manyU f.blocks)) ∧ Hid (Below w.heap.size w wr) ∧ Hid (Blk wr w.heap.size 25 #[gv, .slice A l c]))
  case atStart => exact ⟨0, by omega, rfl, Lib.hid (fun j f h => absurd h (Nat.not_lt_zero j)), HB0, HC0⟩
  case round =>
    obtain ⟨k, hk, rfl, HN, HB, HC⟩ := hrel
    clear HB0 HC0
    have c1 := HC.out.cell 1
    have hg0 := HC.out.lt
    rcases gk with _ | m
    · have hlt : ¬ (k : Int) < (l : Int) := by omega
      have HE : Hid (heavyF fs = decide (10 < l)) := Lib.hid (by rw [heavy_no (fun j f hf => HN.out j f (by have := (List.getElem?_eq_some_iff.1 hf).1; rw [Hl.out] at this; omega) hf), Hl.out])
      have hd : decide ((10 : Int) < (l : Int)) = decide (10 < l) := by
        rw [decide_eq_decide]; omega
      have hd2 : ¬ (10 : Int) < (l : Int) := by omega
      have hd3 : ¬ 10 < l := by omega
      clear hd
      go_wp2_with fail
      go_ret
      exact ⟨ret_bool (by rw [HE.out]; simp [hd3]; try omega), HB.out⟩
    · have hlt : (k : Int) < (l : Int) := by omega
      have hk0 : (0 : Int) ≤ (k : Int) := Int.natCast_nonneg k
      obtain ⟨fb, fo, f, bA, bc, rfl, hfb, hfn, f0, f1, f2, f3, hbl⟩ := FunsAt.one HU.out.funs (show k < l by omega)
      have f3 := (bcell HB.out hfb).trans f3
      have Hfb := Lib.hid hfb
      have Hfn := Lib.hid hfn
      have HB0k := HB
      obtain ⟨bl, hbl2⟩ : ∃ bl, f.blocks.length = bl := ⟨_, rfl⟩
      have HBLn := Lib.hid hbl2
      rw [hbl2] at f3 hbl
      have HBL := Lib.hid hbl
      have Hf3 := Lib.hid f3
      have hho := head_ok (Hok.out.heads _ _ hfn)
      have hbl40 : bl ≤ 40 := by have := hho.b1; omega
      have Hmany : Hid (manyU f.blocks ≤ 300) := Lib.hid hho.many
      clear hfn hbl hbl2 f0 f1 f2 hho
      go_wp2_with fail
      go_loopg [4, 5] bl (fun gj s i wr => ∃ j : Nat, j + gj = bl ∧ s = .int .i64 ((manyU (f.blocks.take j) : Nat) : Int) ∧ i = .int .i64 j ∧ Hid (Below w.heap.size w wr) ∧ Hid (Blk wr w.heap.size 25 #[gv, .slice (some ⟨fb, fo, none⟩) l c]))
      case atStart => exact ⟨0, by omega, rfl, rfl, HB, HC⟩
      case round =>
        obtain ⟨j, hj, rfl, rfl, HBj, HCj⟩ := hrel
        clear HB HC c1 f3
        have c1 := HCj.out.cell 1
        have f3 := (bcell HBj.out Hfb.out).trans (((bcell HB0k.out Hfb.out).symm.trans Hf3.out))
        have hg0 := HCj.out.lt
        have hfb1 : fb < wr.heap.size := Nat.lt_of_lt_of_le Hfb.out HBj.out.size
        rcases gk with _ | mj
        · have hlt2 : ¬ (j : Int) < (bl : Int) := by omega
          have Hmy : Hid (manyU (f.blocks.take j) = manyU f.blocks) := Lib.hid (by rw [List.take_of_length_le (by rw [HBLn.out]; omega)])
          rw [Hmy.out]
          by_cases hbig : 24 < bl
          · have HE : Hid (heavyF fs = true) := Lib.hid (heavy_hit Hfn.out (.inl (by rw [HBLn.out]; exact hbig)))
            have hbi : (24 : Int) < (bl : Int) := by omega
            go_wp2_with fail
            go_ret
            exact ⟨ret_bool HE.out.symm, HBj.out⟩
          · have hbi : ¬ (24 : Int) < (bl : Int) := by omega
            by_cases hm : 120 < manyU f.blocks
            · have HE : Hid (heavyF fs = true) := Lib.hid (heavy_hit Hfn.out (.inr hm))
              have hmi : (120 : Int) < ((manyU f.blocks : Nat) : Int) := by omega
              generalize manyU f.blocks = mu at *
              go_wp2_with fail
              go_ret
              exact ⟨ret_bool HE.out.symm, HBj.out⟩
            · have hmi : ¬ (120 : Int) < ((manyU f.blocks : Nat) : Int) := by omega
              have HN2 : Hid (∀ (q : Nat) (f : FunU), q < k + 1 → fs[q]? = some f → ¬ (24 < f.blocks.length ∨ 120 < manyU f.blocks)) := Lib.hid (fun q f' hq hf' => by
                rcases Nat.lt_or_ge q k with h3 | h3
                · exact HN.out q f' h3 hf'
                · obtain rfl : q = k := by omega
                  rw [Hfn.out] at hf'
                  cases hf'
                  rw [HBLn.out]
                  omega)
              generalize manyU f.blocks = mu at *
              go_wp2_with fail
              go_roundg m
              case measure => omega
              case rel => exact ⟨k + 1, by omega, by go_num, HN2, HBj, HCj⟩
        · have hlt2 : (j : Int) < (bl : Int) := by omega
          have hj0 : (0 : Int) ≤ (j : Int) := Int.natCast_nonneg j
          obtain ⟨bb, bo, b, pA, pc, lA, lc, tA, tc, rfl, hbb, hbj, p0, p1, p2, p3, p4, p5, hph, hli, hto⟩ := BlksAt.one HBL.out (show j < bl by omega)
          have p0 := (bcell HBj.out hbb).trans p0
          have p1 := (bcell HBj.out hbb).trans p1
          have hbb1 : bb < wr.heap.size := Nat.lt_of_lt_of_le hbb HBj.out.size
          have HS : Hid (manyU (f.blocks.take j) + b.phis.length + b.list.length = manyU (f.blocks.take (j + 1))) := Lib.hid (by rw [manyU_snoc hbj]; omega)
          have HT : Hid (manyU (f.blocks.take (j + 1)) ≤ 300) := Lib.hid (Nat.le_trans (manyU_take _ _) Hmany.out)
          have hs := HS.out
          have ht := HT.out
          have hw1 : IntKind.i64.wrap (((manyU (f.blocks.take j) : Nat) : Int) + ((b.phis.length : Nat) : Int)) = ((manyU (f.blocks.take j) : Nat) : Int) + ((b.phis.length : Nat) : Int) := by rw [IntKind.wrap_i64]; omega
          have hw2 : IntKind.i64.wrap (((manyU (f.blocks.take j) : Nat) : Int) + ((b.phis.length : Nat) : Int) + ((b.list.length : Nat) : Int)) = ((manyU (f.blocks.take j) : Nat) : Int) + ((b.phis.length : Nat) : Int) + ((b.list.length : Nat) : Int) := by rw [IntKind.wrap_i64]; omega
          clear hs ht p2 p3 p4 p5 hph hli hto hbj
          go_wp2_with fail
          go_quiet (fail)
          have HBq : Hid (Below w.heap.size w (wr.drewN nq)) := Lib.hid (below_drewN HBj.out _)
          have HCq : Hid (Blk (wr.drewN nq) w.heap.size 25 #[gv, .slice (some ⟨fb, fo, none⟩) l c]) := HCj
          go_wp2_with fail
          go_roundg mj
          case measure => omega
          case rel => exact ⟨j + 1, by omega, by rw [← HS.out]; push_cast; rfl, by go_num, HBq, HCq⟩
theorem field_code (c a : Int) (w : World) : (Instr.field 28 (.agg #[.int .i64 c, .int .i64 a]) 0).run Tryz.prog w = .ok (.int .i64 c) w := by
  have u := run_underlying (w := w) Tryz.underlying28
  have u3 := Tryz.underlying3
  have a3 := Tryz.isAgg3
  have z3 := Tryz.sizeOf3
  unfold Instr.field
  simp only [Sem.run_bind, u, Result.andThen_ok]
  go_simp
  simp [asAgg]
/-- May a function be asked? -/
def goodF (gs : List Glob) (fs : List FunU) (k : Int) : Bool := decide ((clashF gs fs k).1 = 0) && !heavyF fs
theorem good_no_unit {gs : List Glob} {fs : List FunU} {k c a : Int} (h : unitF gs fs = (c, a)) (hc : c ≠ 0) : goodF gs fs k = false := by
  unfold goodF
  rw [clash_unit h hc]
  simp [hc]
theorem good_no_far {gs : List Glob} {fs : List FunU} {k a : Int} (h : unitF gs fs = (0, a)) (hc : ¬ (0 ≤ k ∧ k < fs.length)) : goodF gs fs k = false := by
  unfold goodF
  rw [clash_far h hc]
  simp
theorem good_no_heavy {gs : List Glob} {fs : List FunU} {k : Int} (h : heavyF fs = true) : goodF gs fs k = false := by
  unfold goodF
  rw [h]
  simp
theorem good_else {gs : List Glob} {fs : List FunU} {k : Int} (h : heavyF fs = false) : goodF gs fs k = decide ((clashF gs fs k).1 = 0) := by
  unfold goodF
  rw [h]
  simp
set_option maxRecDepth 100000 in
set_option maxHeartbeats 4000000 in
theorem good_any (gv fv : Value) (gs : List Glob) (fs : List FunU) (k : Int) (w : World) (hk : I64 k) (hu : UnitAt w w.heap.size gv fv gs fs) :
    Calls Tryz.prog 8 #[.agg #[gv, fv], .int .i64 k] w fun e w' => e = .returned (.bool (goodF gs fs k)) ∧ Below w.heap.size w w' := by
  have HU := Lib.hid hu
  obtain ⟨A, c, rfl, hl1, hl2⟩ := SlAt.form hu.funs
  obtain ⟨l, hl⟩ : ∃ l, fs.length = l := ⟨_, rfl⟩
  rw [hl] at HU hl1 ⊢
  have Hl := Lib.hid hl
  have Hk := Lib.hid hk
  have HB0 : Hid (Below w.heap.size w (w.alloc (.cells #[gv, .slice A l c] 25))) := Lib.hid ((Below.refl _ _).alloc (Nat.le_refl _) _)
  have HC0 : Hid (Blk (w.alloc (.cells #[gv, .slice A l c] 25)) w.heap.size 25 #[gv, .slice A l c]) := Lib.hid (Blk.new w _ _)
  clear hu hk hl
  go_enter Tryz.func8, Tryz.ntmps8
  go_upto_region 1 with fail
  generalize w.alloc (.cells #[gv, .slice A l c] 25) = W0 at *
  have c0 := HC0.out.cell 0
  have c1 := HC0.out.cell 1
  have HU0 := Lib.hid (HU.out.later HB0.out)
  go_wp2_with fail
  refine (Check_any gv _ gs fs W0 HU0.out.globs HU0.out.funs HU0.out.gok HU0.out.fok HU0.out.ways).mono ?_
  rintro e W1 ⟨rfl, hb1⟩
  obtain ⟨uc, ua, hun⟩ : ∃ uc ua, unitF gs fs = (uc, ua) := ⟨_, _, rfl⟩
  rw [hun]
  have Hun := Lib.hid hun
  have HB1 := Lib.hid (HB0.out.trans (hb1.mono HB0.out.size))
  have HC1 := Lib.hid (HC0.out.below hb1 HC0.out.lt)
  have hg0 := HC1.out.lt
  clear hb1 c0 c1 HU0 HC0 HB0 hun
  have c0 := HC1.out.cell 0
  have c1 := HC1.out.cell 1
  have hfld := fun (c a : Int) (W : World) => field_code c a W
  by_cases h0 : uc = 0
  · subst h0
    have Hok := Lib.hid (unit_ok (gs := gs) (fs := fs) (by rw [Hun.out]))
    by_cases hk0 : k < 0
    · have HE : Hid (goodF gs fs k = false) := Lib.hid (good_no_far Hun.out (by omega))
      have hund : ∀ b : Bool, ¬ (undef = Value.bool b) := fun b h => by cases h
      go_wp2_with fail
      go_ret
      exact ⟨ret_bool HE.out.symm, HB1.out⟩
    · by_cases hk1 : k < (l : Int)
      · have hk2 : ¬ (l : Int) ≤ k := by omega
        have HU1 := Lib.hid (HU.out.later HB1.out)
        go_wp2_with fail
        refine (Heavy_any gv _ gs fs W1 HU1.out Hok.out).mono ?_
        rintro e W2 ⟨rfl, hb2⟩
        have HB2 := Lib.hid (HB1.out.trans (hb2.mono HB1.out.size))
        have HC2 := Lib.hid (HC1.out.below hb2 HC1.out.lt)
        clear hb2 c0 c1 hg0
        have c0 := HC2.out.cell 0
        have c1 := HC2.out.cell 1
        have hg0 := HC2.out.lt
        cases hh : heavyF fs with
        | true =>
          have HE : Hid (goodF gs fs k = false) := Lib.hid (good_no_heavy hh)
          clear hh
          go_wp2_with fail
          go_ret
          exact ⟨ret_bool HE.out.symm, HB2.out⟩
        | false =>
          have HE : Hid (goodF gs fs k = decide ((clashF gs fs k).1 = 0)) := Lib.hid (good_else hh)
          have HU2 := Lib.hid (HU.out.later HB2.out)
          clear hh
          go_wp2_with fail
          refine (RFault_any gv _ gs fs k W2 Hk.out HU2.out).mono ?_
          rintro e W3 ⟨rfl, hb3⟩
          have HB3 := Lib.hid (HB2.out.trans (hb3.mono HB2.out.size))
          obtain ⟨fc, fa, hfc⟩ : ∃ fc fa, clashF gs fs k = (fc, fa) := ⟨_, _, rfl⟩
          rw [hfc] at HE ⊢
          clear hb3 hfc
          go_wp2_with fail
          go_ret
          exact ⟨ret_bool (by rw [HE.out]; rfl), HB3.out⟩
      · have hk2 : (l : Int) ≤ k := by omega
        have HE : Hid (goodF gs fs k = false) := Lib.hid (good_no_far Hun.out (by rw [Hl.out]; omega))
        have hund : ∀ b : Bool, ¬ (undef = Value.bool b) := fun b h => by cases h
        go_wp2_with fail
        go_ret
        exact ⟨ret_bool HE.out.symm, HB1.out⟩
  · have HE : Hid (goodF gs fs k = false) := Lib.hid (good_no_unit Hun.out h0)
    have hub : (uc != 0) = true := by simpa using h0
    have hund : ∀ b : Bool, ¬ (undef = Value.bool b) := fun b h => by cases h
    clear h0
    go_wp2_with fail
    go_ret
    exact ⟨ret_bool HE.out.symm, HB1.out⟩
end Go.Proofs.YtkkllflbepcimaaGreatDoor
namespace Go.Proofs.YtkkllflbepcimaaGreatDoor
open Go.RowKit

def mainName : ByteArray := ⟨#[109, 97, 105, 110]⟩
def twinB : BlkU := ⟨[], [⟨21, 0, Opd.zero, Opd.zero, 0, []⟩, ⟨21, 1, Opd.zero, Opd.zero, 0, []⟩, ⟨2, 2, ⟨true, 0⟩, ⟨true, 1⟩, 0, []⟩], 1, ⟨true, 2⟩, []⟩
def twinFs : List FunU := [⟨mainName, 0, 3, [twinB]⟩]
theorem twin_unit : unitF [] twinFs = (0, 0) := by kernel_rfl
theorem twin_clash : clashF [] twinFs 0 = (0, 0) := by kernel_rfl
theorem sl_lit {α : Type} {size : Nat} {P : World → Nat → List Value → α → Prop} {w : World} {B g : Nat} {t : TypeId} {cs : Array Value} {xs : List α} (n : Nat) (hn : xs.length = n) (hb : Blk w g t cs) (hg : g < B) (hl : n ≤ 1000)
    (h : ∀ (k : Nat) (x : α), xs[k]? = some x → ∃ us, P w B us x ∧ ∀ (j : Nat) (u : Value), us[j]? = some u → cs[k * size + j]? = some u) : SlAt size P w B (.slice (some ⟨g, 0, none⟩) n n) xs := by
  subst hn
  refine ⟨some ⟨g, 0, none⟩, xs.length, rfl, Nat.le_refl _, by omega, fun _ => ⟨g, 0, rfl, hg, fun k x hx => ?_⟩⟩
  obtain ⟨us, hp, hc⟩ := h k x hx
  refine ⟨us, hp, fun j u hu => ?_⟩
  rw [Nat.zero_add, hb.cell]
  exact hc j u hu
theorem cells_nth {us : List Value} {cs : Array Value} {o : Nat} (h : (cs.toList.drop o).take us.length = us) (j : Nat) (u : Value) (hu : us[j]? = some u) : cs[o + j]? = some u := by
  have hj := (List.getElem?_eq_some_iff.1 hu).1
  rw [← h, List.getElem?_take, if_pos hj, List.getElem?_drop] at hu
  simpa using hu
theorem ints_none (w : World) (B : Nat) : IntsAt w B (.slice none 0 0) [] := ⟨none, 0, rfl, by simp, by omega, fun h => by simp at h⟩
theorem globs_none (w : World) (B : Nat) : GlobsAt w B (.slice none 0 0) [] := ⟨none, 0, rfl, by simp, by omega, fun h => by simp at h⟩
theorem i64_small {n : Int} (h : -1000 ≤ n ∧ n ≤ 1000) : I64 n := ⟨by omega, by omega⟩
set_option maxRecDepth 100000 in
set_option maxHeartbeats 2000000 in
theorem twin_any (w : World) (hw : Ways w) : Calls Tryz.prog 7 #[] w fun e w' => ∃ gv fv, e = .returned (.agg #[gv, fv]) ∧ UnitAt w' w'.heap.size gv fv [] twinFs ∧ Below w.heap.size w w' := by
  have HW := Lib.hid hw
  clear hw
  have HB : Hid (Below w.heap.size w (((((w.alloc (.cells #[.slice none 0 0, .slice (some ⟨w.heap.size + 1 + 1 + 1 + 1, 0, none⟩) 1 1] 25)).alloc (.cells #[.int .i64 21, .int .i64 0, .bool false, .int .i64 0, .bool false, .int .i64 0, .int .i64 0, .slice none 0 0, .int .i64 21, .int .i64 1, .bool false, .int .i64 0, .bool false, .int .i64 0, .int .i64 0, .slice none 0 0, .int .i64 2, .int .i64 2, .bool true, .int .i64 0, .bool true, .int .i64 1, .int .i64 0, .slice none 0 0] 62)).alloc (.cells #[.slice none 0 0, .slice (some ⟨w.heap.size + 1, 0, none⟩) 3 3, .int .i64 1, .bool true, .int .i64 2, .slice none 0 0] 68)).alloc (.cells #[.slice none 0 0, .slice (some ⟨w.heap.size + 1, 0, none⟩) 3 3, .int .i64 1, .bool true, .int .i64 2, .slice none 0 0] 68)).alloc (.cells #[.string ⟨#[109, 97, 105, 110]⟩, .int .i64 0, .int .i64 3, .slice (some ⟨w.heap.size + 1 + 1 + 1, 0, none⟩) 1 1] 40))) := Lib.hid ((((((Below.refl _ _).alloc (Nat.le_refl _) _).alloc (by simp) _).alloc (by simp; omega) _).alloc (by simp; omega) _).alloc (by simp; omega) _)
  have H0 : Hid (Blk (((((w.alloc (.cells #[.slice none 0 0, .slice (some ⟨w.heap.size + 1 + 1 + 1 + 1, 0, none⟩) 1 1] 25)).alloc (.cells #[.int .i64 21, .int .i64 0, .bool false, .int .i64 0, .bool false, .int .i64 0, .int .i64 0, .slice none 0 0, .int .i64 21, .int .i64 1, .bool false, .int .i64 0, .bool false, .int .i64 0, .int .i64 0, .slice none 0 0, .int .i64 2, .int .i64 2, .bool true, .int .i64 0, .bool true, .int .i64 1, .int .i64 0, .slice none 0 0] 62)).alloc (.cells #[.slice none 0 0, .slice (some ⟨w.heap.size + 1, 0, none⟩) 3 3, .int .i64 1, .bool true, .int .i64 2, .slice none 0 0] 68)).alloc (.cells #[.slice none 0 0, .slice (some ⟨w.heap.size + 1, 0, none⟩) 3 3, .int .i64 1, .bool true, .int .i64 2, .slice none 0 0] 68)).alloc (.cells #[.string ⟨#[109, 97, 105, 110]⟩, .int .i64 0, .int .i64 3, .slice (some ⟨w.heap.size + 1 + 1 + 1, 0, none⟩) 1 1] 40)) w.heap.size 25 #[.slice none 0 0, .slice (some ⟨w.heap.size + 1 + 1 + 1 + 1, 0, none⟩) 1 1]) := Lib.hid (((((Blk.new w _ _).alloc _).alloc _).alloc _).alloc _)
  have H1 : Hid (Blk (((((w.alloc (.cells #[.slice none 0 0, .slice (some ⟨w.heap.size + 1 + 1 + 1 + 1, 0, none⟩) 1 1] 25)).alloc (.cells #[.int .i64 21, .int .i64 0, .bool false, .int .i64 0, .bool false, .int .i64 0, .int .i64 0, .slice none 0 0, .int .i64 21, .int .i64 1, .bool false, .int .i64 0, .bool false, .int .i64 0, .int .i64 0, .slice none 0 0, .int .i64 2, .int .i64 2, .bool true, .int .i64 0, .bool true, .int .i64 1, .int .i64 0, .slice none 0 0] 62)).alloc (.cells #[.slice none 0 0, .slice (some ⟨w.heap.size + 1, 0, none⟩) 3 3, .int .i64 1, .bool true, .int .i64 2, .slice none 0 0] 68)).alloc (.cells #[.slice none 0 0, .slice (some ⟨w.heap.size + 1, 0, none⟩) 3 3, .int .i64 1, .bool true, .int .i64 2, .slice none 0 0] 68)).alloc (.cells #[.string ⟨#[109, 97, 105, 110]⟩, .int .i64 0, .int .i64 3, .slice (some ⟨w.heap.size + 1 + 1 + 1, 0, none⟩) 1 1] 40)) (w.heap.size + 1) 62 #[.int .i64 21, .int .i64 0, .bool false, .int .i64 0, .bool false, .int .i64 0, .int .i64 0, .slice none 0 0, .int .i64 21, .int .i64 1, .bool false, .int .i64 0, .bool false, .int .i64 0, .int .i64 0, .slice none 0 0, .int .i64 2, .int .i64 2, .bool true, .int .i64 0, .bool true, .int .i64 1, .int .i64 0, .slice none 0 0]) := Lib.hid (by
    have := (((Blk.new (w.alloc (.cells #[.slice none 0 0, .slice (some ⟨w.heap.size + 1 + 1 + 1 + 1, 0, none⟩) 1 1] 25)) 62 #[.int .i64 21, .int .i64 0, .bool false, .int .i64 0, .bool false, .int .i64 0, .int .i64 0, .slice none 0 0, .int .i64 21, .int .i64 1, .bool false, .int .i64 0, .bool false, .int .i64 0, .int .i64 0, .slice none 0 0, .int .i64 2, .int .i64 2, .bool true, .int .i64 0, .bool true, .int .i64 1, .int .i64 0, .slice none 0 0]).alloc (.cells #[.slice none 0 0, .slice (some ⟨w.heap.size + 1, 0, none⟩) 3 3, .int .i64 1, .bool true, .int .i64 2, .slice none 0 0] 68)).alloc (.cells #[.slice none 0 0, .slice (some ⟨w.heap.size + 1, 0, none⟩) 3 3, .int .i64 1, .bool true, .int .i64 2, .slice none 0 0] 68)).alloc (.cells #[.string ⟨#[109, 97, 105, 110]⟩, .int .i64 0, .int .i64 3, .slice (some ⟨w.heap.size + 1 + 1 + 1, 0, none⟩) 1 1] 40)
    simp only [World.size_alloc] at this
    exact this)
  have H3 : Hid (Blk (((((w.alloc (.cells #[.slice none 0 0, .slice (some ⟨w.heap.size + 1 + 1 + 1 + 1, 0, none⟩) 1 1] 25)).alloc (.cells #[.int .i64 21, .int .i64 0, .bool false, .int .i64 0, .bool false, .int .i64 0, .int .i64 0, .slice none 0 0, .int .i64 21, .int .i64 1, .bool false, .int .i64 0, .bool false, .int .i64 0, .int .i64 0, .slice none 0 0, .int .i64 2, .int .i64 2, .bool true, .int .i64 0, .bool true, .int .i64 1, .int .i64 0, .slice none 0 0] 62)).alloc (.cells #[.slice none 0 0, .slice (some ⟨w.heap.size + 1, 0, none⟩) 3 3, .int .i64 1, .bool true, .int .i64 2, .slice none 0 0] 68)).alloc (.cells #[.slice none 0 0, .slice (some ⟨w.heap.size + 1, 0, none⟩) 3 3, .int .i64 1, .bool true, .int .i64 2, .slice none 0 0] 68)).alloc (.cells #[.string ⟨#[109, 97, 105, 110]⟩, .int .i64 0, .int .i64 3, .slice (some ⟨w.heap.size + 1 + 1 + 1, 0, none⟩) 1 1] 40)) (w.heap.size + 1 + 1 + 1) 68 #[.slice none 0 0, .slice (some ⟨w.heap.size + 1, 0, none⟩) 3 3, .int .i64 1, .bool true, .int .i64 2, .slice none 0 0]) := Lib.hid (by
    have := (Blk.new (((w.alloc (.cells #[.slice none 0 0, .slice (some ⟨w.heap.size + 1 + 1 + 1 + 1, 0, none⟩) 1 1] 25)).alloc (.cells #[.int .i64 21, .int .i64 0, .bool false, .int .i64 0, .bool false, .int .i64 0, .int .i64 0, .slice none 0 0, .int .i64 21, .int .i64 1, .bool false, .int .i64 0, .bool false, .int .i64 0, .int .i64 0, .slice none 0 0, .int .i64 2, .int .i64 2, .bool true, .int .i64 0, .bool true, .int .i64 1, .int .i64 0, .slice none 0 0] 62)).alloc (.cells #[.slice none 0 0, .slice (some ⟨w.heap.size + 1, 0, none⟩) 3 3, .int .i64 1, .bool true, .int .i64 2, .slice none 0 0] 68)) 68 #[.slice none 0 0, .slice (some ⟨w.heap.size + 1, 0, none⟩) 3 3, .int .i64 1, .bool true, .int .i64 2, .slice none 0 0]).alloc (.cells #[.string ⟨#[109, 97, 105, 110]⟩, .int .i64 0, .int .i64 3, .slice (some ⟨w.heap.size + 1 + 1 + 1, 0, none⟩) 1 1] 40)
    simp only [World.size_alloc] at this
    exact this)
  have H4 : Hid (Blk (((((w.alloc (.cells #[.slice none 0 0, .slice (some ⟨w.heap.size + 1 + 1 + 1 + 1, 0, none⟩) 1 1] 25)).alloc (.cells #[.int .i64 21, .int .i64 0, .bool false, .int .i64 0, .bool false, .int .i64 0, .int .i64 0, .slice none 0 0, .int .i64 21, .int .i64 1, .bool false, .int .i64 0, .bool false, .int .i64 0, .int .i64 0, .slice none 0 0, .int .i64 2, .int .i64 2, .bool true, .int .i64 0, .bool true, .int .i64 1, .int .i64 0, .slice none 0 0] 62)).alloc (.cells #[.slice none 0 0, .slice (some ⟨w.heap.size + 1, 0, none⟩) 3 3, .int .i64 1, .bool true, .int .i64 2, .slice none 0 0] 68)).alloc (.cells #[.slice none 0 0, .slice (some ⟨w.heap.size + 1, 0, none⟩) 3 3, .int .i64 1, .bool true, .int .i64 2, .slice none 0 0] 68)).alloc (.cells #[.string ⟨#[109, 97, 105, 110]⟩, .int .i64 0, .int .i64 3, .slice (some ⟨w.heap.size + 1 + 1 + 1, 0, none⟩) 1 1] 40)) (w.heap.size + 1 + 1 + 1 + 1) 40 #[.string ⟨#[109, 97, 105, 110]⟩, .int .i64 0, .int .i64 3, .slice (some ⟨w.heap.size + 1 + 1 + 1, 0, none⟩) 1 1]) := Lib.hid (by
    have := Blk.new ((((w.alloc (.cells #[.slice none 0 0, .slice (some ⟨w.heap.size + 1 + 1 + 1 + 1, 0, none⟩) 1 1] 25)).alloc (.cells #[.int .i64 21, .int .i64 0, .bool false, .int .i64 0, .bool false, .int .i64 0, .int .i64 0, .slice none 0 0, .int .i64 21, .int .i64 1, .bool false, .int .i64 0, .bool false, .int .i64 0, .int .i64 0, .slice none 0 0, .int .i64 2, .int .i64 2, .bool true, .int .i64 0, .bool true, .int .i64 1, .int .i64 0, .slice none 0 0] 62)).alloc (.cells #[.slice none 0 0, .slice (some ⟨w.heap.size + 1, 0, none⟩) 3 3, .int .i64 1, .bool true, .int .i64 2, .slice none 0 0] 68)).alloc (.cells #[.slice none 0 0, .slice (some ⟨w.heap.size + 1, 0, none⟩) 3 3, .int .i64 1, .bool true, .int .i64 2, .slice none 0 0] 68)) 40 #[.string ⟨#[109, 97, 105, 110]⟩, .int .i64 0, .int .i64 3, .slice (some ⟨w.heap.size + 1 + 1 + 1, 0, none⟩) 1 1]
    simp only [World.size_alloc] at this
    exact this)
  go_enter Tryz.func7, Tryz.ntmps7
  go_wp2_with fail
  generalize ((((w.alloc (.cells #[.slice none 0 0, .slice (some ⟨w.heap.size + 1 + 1 + 1 + 1, 0, none⟩) 1 1] 25)).alloc (.cells #[.int .i64 21, .int .i64 0, .bool false, .int .i64 0, .bool false, .int .i64 0, .int .i64 0, .slice none 0 0, .int .i64 21, .int .i64 1, .bool false, .int .i64 0, .bool false, .int .i64 0, .int .i64 0, .slice none 0 0, .int .i64 2, .int .i64 2, .bool true, .int .i64 0, .bool true, .int .i64 1, .int .i64 0, .slice none 0 0] 62)).alloc (.cells #[.slice none 0 0, .slice (some ⟨w.heap.size + 1, 0, none⟩) 3 3, .int .i64 1, .bool true, .int .i64 2, .slice none 0 0] 68)).alloc (.cells #[.slice none 0 0, .slice (some ⟨w.heap.size + 1, 0, none⟩) 3 3, .int .i64 1, .bool true, .int .i64 2, .slice none 0 0] 68)).alloc (.cells #[.string ⟨#[109, 97, 105, 110]⟩, .int .i64 0, .int .i64 3, .slice (some ⟨w.heap.size + 1 + 1 + 1, 0, none⟩) 1 1] 40) = W at *
  generalize w.heap.size + 1 = g1 at *
  generalize g1 + 1 + 1 = g3 at *
  generalize g3 + 1 = g4 at *
  have hI : InssAt W W.heap.size (.slice (some ⟨g1, 0, none⟩) 3 3) twinB.list := by
    refine sl_lit 3 rfl H1.out H1.out.lt (by omega) (fun k x hx => ?_)
    have hk := (List.getElem?_eq_some_iff.1 hx).1
    rcases (by have : twinB.list.length = 3 := rfl; omega : k = 0 ∨ k = 1 ∨ k = 2) with rfl | rfl | rfl
    all_goals
      cases hx
      exact ⟨_, ⟨_, rfl, SlAt.nil _ _⟩, fun j u hu => cells_nth (by rfl) j u hu⟩
  have hBk : BlksAt W W.heap.size (.slice (some ⟨g3, 0, none⟩) 1 1) [twinB] := by
    refine sl_lit 1 rfl H3.out H3.out.lt (by omega) (fun k x hx => ?_)
    have hk := (List.getElem?_eq_some_iff.1 hx).1
    obtain rfl : k = 0 := by simp at hk; exact hk
    cases hx
    exact ⟨_, ⟨_, _, _, rfl, SlAt.nil _ _, hI, ints_none _ _⟩, fun j u hu => cells_nth (by rfl) j u hu⟩
  have hF : FunsAt W W.heap.size (.slice (some ⟨g4, 0, none⟩) 1 1) twinFs := by
    refine sl_lit 1 rfl H4.out H4.out.lt (by omega) (fun k x hx => ?_)
    have hk := (List.getElem?_eq_some_iff.1 hx).1
    obtain rfl : k = 0 := by simp [twinFs] at hk; exact hk
    cases hx
    exact ⟨_, ⟨_, rfl, hBk⟩, fun j u hu => cells_nth (by rfl) j u hu⟩
  have hok : ∀ f ∈ twinFs, f.ok := by
    have hz : Opd.zero.ok := ⟨i64_small (by decide)⟩
    intro f hf
    simp only [twinFs, List.mem_cons, List.not_mem_nil, or_false] at hf
    subst hf
    refine ⟨by decide, i64_small (by decide), i64_small (by decide), fun b hb => ?_⟩
    simp only [List.mem_cons, List.not_mem_nil, or_false] at hb
    subst hb
    refine ⟨fun p hp => (by cases hp), fun x hx => ?_, i64_small (by decide), ⟨i64_small (by decide)⟩, fun n hn => (by cases hn)⟩
    simp only [twinB, List.mem_cons, List.not_mem_nil, or_false] at hx
    rcases hx with rfl | rfl | rfl
    all_goals exact ⟨i64_small (by decide), i64_small (by decide), ⟨i64_small (by decide)⟩, ⟨i64_small (by decide)⟩, i64_small (by decide), fun o ho => (by cases ho)⟩
  have hU : UnitAt W W.heap.size (.slice none 0 0) (.slice (some ⟨g4, 0, none⟩) 1 1) [] twinFs :=
    ⟨globs_none _ _, hF, fun g hg => (by cases hg), hok, HW.out.own HB.out, (HW.out.own HB.out).lt, Nat.le_refl _⟩
  exact end_cell rfl rfl H0.out Tryz.underlying25 rfl (by kernel_rfl) rfl ⟨_, _, rfl, hU, HB.out⟩
end Go.Proofs.YtkkllflbepcimaaGreatDoor
