/-
  code.Check: what it tells of a unit.
  Conditions: the table of ends stands.
-/
import Derived.Test.YtiknhfbkphoceaaGreatDoorUnH
import Derived.Test.YtiknhfbkphoceaaGreatDoorUnT
import Derived.Deep.DeepCutAuto
import Derived.Deep.RegionHeld3
namespace Go.Proofs.YtiknhfbkphoceaaGreatDoor
open Go.RowKit

theorem hadS_map (gs : List Glob) (s : ByteArray) : hadS (gs.map Glob.name) s = gs.any fun h => h.name.toList == s.toList := by
  unfold hadS
  rw [List.any_map]
  rfl
/-- Names ahead of a function. -/
def namesH (gs : List Glob) (fs : List FunU) (i : Nat) : List ByteArray := gs.map Glob.name ++ (fs.take i).map FunU.name
def headF (gs : List Glob) (fs : List FunU) (i : Nat) (f : FunU) : Int := headE (namesH gs fs i) f
def bodyF (fs : List FunU) (_ : Nat) (f : FunU) : Int := bodyE (fs.map FunU.params) f
section
variable {gs : List Glob} {fs : List FunU}
theorem unit_many (h : 10 < gs.length ∨ 10 < fs.length) : unitF gs fs = (2, 0) := by unfold unitF; rw [if_pos h]
theorem unit_g {k : Nat} {g : Glob} (h : ¬ (10 < gs.length ∨ 10 < fs.length)) (hk : gs[k]? = some g) (h2 : gBad (gs.take k) g ≠ 0) (hb : ∀ j, j < k → gBadAt gs j = 0) : unitF gs fs = (gBad (gs.take k) g, (k : Int)) := by
  have e := globF_hit (by omega) hk h2 hb
  unfold unitF; rw [if_neg h, if_pos (by rw [e]; exact h2), e]
theorem unit_gs (h : ¬ (10 < gs.length ∨ 10 < fs.length)) (hb : ∀ j, j < gs.length → gBadAt gs j = 0) : (globF gs).1 = 0 := by rw [globF_ok (by omega) hb]
theorem unit_h {k : Nat} {f : FunU} (h : ¬ (10 < gs.length ∨ 10 < fs.length)) (hg : (globF gs).1 = 0) (hk : fs[k]? = some f) (h2 : headF gs fs k f ≠ 0) (hb : ∀ j, j < k → badOf (headF gs fs) fs j = 0) : unitF gs fs = (headF gs fs k f, (k : Int)) := by
  have e : firstBad (badOf (headF gs fs) fs) fs.length = (headF gs fs k f, (k : Int)) := by
    rw [firstBad_hit (List.getElem?_eq_some_iff.1 hk).1 (by rw [badOf_at hk]; exact h2) hb, badOf_at hk]
  unfold unitF
  rw [if_neg h, if_neg (by simpa using hg)]
  change (if (firstBad (badOf (headF gs fs) fs) fs.length).1 ≠ 0 then firstBad (badOf (headF gs fs) fs) fs.length else _) = _
  rw [if_pos (by rw [e]; exact h2), e]
theorem unit_b {k : Nat} {f : FunU} (h : ¬ (10 < gs.length ∨ 10 < fs.length)) (hg : (globF gs).1 = 0) (hh : ∀ j, j < fs.length → badOf (headF gs fs) fs j = 0) (hk : fs[k]? = some f) (h2 : bodyF fs k f ≠ 0) (hb : ∀ j, j < k → badOf (bodyF fs) fs j = 0) : unitF gs fs = (bodyF fs k f, (k : Int)) := by
  have e : firstBad (badOf (bodyF fs) fs) fs.length = (bodyF fs k f, (k : Int)) := by
    rw [firstBad_hit (List.getElem?_eq_some_iff.1 hk).1 (by rw [badOf_at hk]; exact h2) hb, badOf_at hk]
  have e0 := firstBad_ok hh
  unfold unitF
  rw [if_neg h, if_neg (by simpa using hg)]
  change (if (firstBad (badOf (headF gs fs) fs) fs.length).1 ≠ 0 then firstBad (badOf (headF gs fs) fs) fs.length else if (firstBad (badOf (bodyF fs) fs) fs.length).1 ≠ 0 then firstBad (badOf (bodyF fs) fs) fs.length else _) = _
  rw [if_neg (by rw [e0]; simp), if_pos (by rw [e]; exact h2), e]
theorem unit_m (h : ¬ (10 < gs.length ∨ 10 < fs.length)) (hg : (globF gs).1 = 0) (hh : ∀ j, j < fs.length → badOf (headF gs fs) fs j = 0) (hb : ∀ j, j < fs.length → badOf (bodyF fs) fs j = 0) : unitF gs fs = mainF fs := by
  have e0 := firstBad_ok hh
  have e1 := firstBad_ok hb
  unfold unitF
  rw [if_neg h, if_neg (by simpa using hg)]
  change (if (firstBad (badOf (headF gs fs) fs) fs.length).1 ≠ 0 then firstBad (badOf (headF gs fs) fs) fs.length else if (firstBad (badOf (bodyF fs) fs) fs.length).1 ≠ 0 then firstBad (badOf (bodyF fs) fs) fs.length else _) = _
  rw [if_neg (by rw [e0]; simp), if_neg (by rw [e1]; simp)]
end
theorem namesH_snoc {gs : List Glob} {fs : List FunU} {k : Nat} {f : FunU} (h : fs[k]? = some f) : namesH gs fs (k + 1) = namesH gs fs k ++ [f.name] := by
  have hlt := (List.getElem?_eq_some_iff.1 h).1
  unfold namesH
  rw [List.take_succ_eq_append_getElem hlt, (List.getElem?_eq_some_iff.1 h).2]
  simp
theorem gnames_snoc {gs : List Glob} {k : Nat} {g : Glob} (h : gs[k]? = some g) : (gs.take (k + 1)).map Glob.name = (gs.take k).map Glob.name ++ [g.name] := by
  have hlt := (List.getElem?_eq_some_iff.1 h).1
  rw [List.take_succ_eq_append_getElem hlt, (List.getElem?_eq_some_iff.1 h).2]
  simp
theorem strs_snoc {w : World} {base : Nat} {v : Value} {ss : List ByteArray} {s : ByteArray} (h : w.ownsRow base 9 1 v (ss.length + 1) (ss.map Value.string ++ [.string s])) : OwnStrs w base v (ss ++ [s]) := by
  unfold OwnStrs
  rw [List.length_append, List.map_append]
  exact h
/-- What Check keeps. -/
structure ChkNow (w wr : World) (g1 : Nat) (gv fv : Value) : Prop where
  below : Below w.heap.size w wr
  unit : Blk wr w.heap.size 25 #[gv, fv]
  fault : Blk wr g1 28 #[.int .i64 0, .int .i64 0]
theorem ChkNow.next {w wr wx : World} {g1 : Nat} {gv fv : Value} (h : ChkNow w wr g1 gv fv) (hb : Below wr.heap.size wr wx) : ChkNow w wx g1 gv fv :=
  ⟨h.below.trans (hb.mono h.below.size), h.unit.below hb h.unit.lt, h.fault.below hb h.fault.lt⟩
theorem ChkNow.alloc {w wr : World} {g1 : Nat} {gv fv : Value} (h : ChkNow w wr g1 gv fv) (o : Obj) : ChkNow w (wr.alloc o) g1 gv fv := h.next ((Below.refl _ _).alloc (Nat.le_refl _) o)
theorem ChkNow.app {w wr w' : World} {g1 : Nat} {gv fv v v' : Value} {n H : Nat} {xs ys : List Value} (h : ChkNow w wr g1 gv fv) (ho : wr.ownsRow w.heap.size 9 1 v n ys) (ha : Appended wr w.heap.size 9 1 v (n + 1) xs H v' w') : ChkNow w w' g1 gv fv :=
  ⟨h.below.trans ha.below, ha.blk ho h.unit (by decide), ha.blk ho h.fault (by decide)⟩
/-- The heads' part needs names that the call owns. -/
def CheckPost (w : World) (f : Int × Int) (e : Ending) (w' : World) : Prop := e = .returned (.agg #[.int .i64 f.1, .int .i64 f.2]) ∧ Below w.heap.size w w'
set_option maxRecDepth 100000 in
set_option maxHeartbeats 6000000 in
theorem Check_any (gv fv : Value) (gs : List Glob) (fs : List FunU) (w : World) (hg : GlobsAt w w.heap.size gv gs) (hf : FunsAt w w.heap.size fv fs) (hgo : ∀ g ∈ gs, g.name.size ≤ 9223372036854775807 ∧ I64 g.size) (hfo : ∀ f ∈ fs, f.ok) (hW : Ways w) :
    Calls Tryz.prog 47 #[.agg #[gv, fv]] w (CheckPost w (unitF gs fs)) := by
  have HG := Lib.hid hg
  have HF := Lib.hid hf
  have HGo := Lib.hid hgo
  have HFo := Lib.hid hfo
  have HWays := Lib.hid hW
  obtain ⟨gA, gc, hgv, hgl, hg63, _⟩ := id hg
  subst hgv
  obtain ⟨fA, fc, hfv, hfl, hf63⟩ := SlAt.form hf
  subst hfv
  obtain ⟨gl, hgl'⟩ : ∃ gl, gs.length = gl := ⟨_, rfl⟩
  obtain ⟨fl, hfl'⟩ : ∃ fl, fs.length = fl := ⟨_, rfl⟩
  have HGl := Lib.hid hgl'
  have HFl := Lib.hid hfl'
  rw [hgl'] at hgl HG ⊢
  rw [hfl'] at hfl HF ⊢
  clear hg hf hgo hfo hW hgl' hfl'
  by_cases hmany : 10 < gl ∨ 10 < fl
  · have HE : Hid (unitF gs fs = (2, 0)) := Lib.hid (unit_many (by rw [HGl.out, HFl.out]; exact hmany))
    have HF2 := Lib.hid (Fault_any 2 0)
    by_cases hg10 : 10 < gl
    · clear hmany
      go_enter Tryz.func47, Tryz.ntmps47
      go_wp2_with fail
      refine (HF2.out _).mono ?_
      rintro e W2 ⟨rfl, hb2⟩
      have hk := ((Blk.new (w.alloc (.cells #[.slice gA gl gc, .slice fA fl fc] 25)) 28 #[.int .i64 0, .int .i64 0])).below hb2 (by simp)
      have HB2 : Hid (Below w.heap.size w W2) := Lib.hid ((((Below.refl _ _).alloc (Nat.le_refl _) _).alloc (by simp) _).trans (hb2.mono (by simp; omega)))
      rw [World.size_alloc] at hk
      have HK := Lib.hid hk
      have q0 := hk.cell 0
      have q1 := hk.cell 1
      have k0 := hk.frozen 0
      have k1 := hk.frozen 1
      have hlt := hk.lt
      clear hk hb2
      go_wp2_with fail
      exact end_cell rfl rfl (HK.out.set2 _ _) Tryz.underlying28 rfl (by kernel_rfl) rfl ⟨by rw [HE.out], (HB2.out.setCell (by simp) _).setCell (by simp) _⟩
    · have hf10 : 10 < fl := by omega
      clear hmany
      go_enter Tryz.func47, Tryz.ntmps47
      go_wp2_with fail
      refine (HF2.out _).mono ?_
      rintro e W2 ⟨rfl, hb2⟩
      have hk := ((Blk.new (w.alloc (.cells #[.slice gA gl gc, .slice fA fl fc] 25)) 28 #[.int .i64 0, .int .i64 0])).below hb2 (by simp)
      have HB2 : Hid (Below w.heap.size w W2) := Lib.hid ((((Below.refl _ _).alloc (Nat.le_refl _) _).alloc (by simp) _).trans (hb2.mono (by simp; omega)))
      rw [World.size_alloc] at hk
      have HK := Lib.hid hk
      have q0 := hk.cell 0
      have q1 := hk.cell 1
      have k0 := hk.frozen 0
      have k1 := hk.frozen 1
      have hlt := hk.lt
      clear hk hb2
      go_wp2_with fail
      exact end_cell rfl rfl (HK.out.set2 _ _) Tryz.underlying28 rfl (by kernel_rfl) rfl ⟨by rw [HE.out], (HB2.out.setCell (by simp) _).setCell (by simp) _⟩
  · have HMn : Hid (¬ (10 < gs.length ∨ 10 < fs.length)) := Lib.hid (by rw [HGl.out, HFl.out]; exact hmany)
    have hg10 : gl ≤ 10 := by omega
    have hf10 : fl ≤ 10 := by omega
    clear hmany
    have HN0 : Hid (ChkNow w ((w.alloc (.cells #[.slice gA gl gc, .slice fA fl fc] 25)).alloc (.cells #[.int .i64 0, .int .i64 0] 28)) (w.heap.size + 1) (.slice gA gl gc) (.slice fA fl fc)) := Lib.hid
      ⟨((Below.refl _ _).alloc (Nat.le_refl _) _).alloc (by simp) _, (Blk.new w _ _).alloc _, by simpa using Blk.new (w.alloc (.cells #[.slice gA gl gc, .slice fA fl fc] 25)) 28 #[.int .i64 0, .int .i64 0]⟩
    go_enter Tryz.func47, Tryz.ntmps47
    go_wp2_with fail
    generalize (w.alloc (.cells #[.slice gA gl gc, .slice fA fl fc] 25)).alloc (.cells #[.int .i64 0, .int .i64 0] 28) = W at *
    obtain ⟨g1, hg1⟩ : ∃ g1, w.heap.size + 1 = g1 := ⟨_, rfl⟩
    have hle1 : w.heap.size ≤ g1 := by omega
    rw [hg1] at HN0 ⊢
    have Hg1 := Lib.hid hg1
    clear hg1
    go_loopw [3, 4, 31] (fun nv m i wr => ∃ (k : Nat) (z : Int), k ≤ gl ∧ i = .int .i64 k ∧ m = .int .i64 z ∧ Hid (z = sumG (gs.take k)) ∧ 0 ≤ z ∧ z ≤ 200 ∧ Hid (∀ j, j < k → gBadAt gs j = 0) ∧ Hid (OwnStrs wr w.heap.size nv ((gs.take k).map Glob.name)) ∧ Hid (ChkNow w wr g1 (.slice gA gl gc) (.slice fA fl fc))) (fun _ _ i _ => gl - (intOf i).toNat)
    case atStart => exact ⟨0, 0, Nat.zero_le _, rfl, rfl, Lib.hid rfl, by omega, by omega, Lib.hid (fun j h => absurd h (Nat.not_lt_zero j)), Lib.hid (OwnStrs.nil _ _), HN0⟩
    case round =>
      obtain ⟨k, z, hk, rfl, rfl, Hz, hz0, hz1, HN, HO, HC⟩ := hrel
      clear HN0
      by_cases hlt : k < gl
      · obtain ⟨A', c', eA, _, _, h3⟩ := HG.out
        obtain ⟨b, off, hA, hbw, hcell⟩ := h3 (by rw [HGl.out]; omega)
        obtain rfl : A' = gA := ((Value.slice.inj eA).1).symm
        clear eA
        subst hA
        obtain ⟨⟨gn, gz, gi⟩, hg⟩ : ∃ g, gs[k]? = some g := ⟨gs[k]'(by rw [HGl.out]; exact hlt), List.getElem?_eq_getElem _⟩
        obtain ⟨iv, c0, c1, c2, hiv⟩ := hcell k _ hg
        have hBw := HC.out.below
        have c0 := (bcell hBw hbw).trans c0
        have c1 := (bcell hBw hbw).trans c1
        have c2 := (bcell hBw hbw).trans c2
        obtain ⟨Ai, ci, hivv, hic, hi63, _⟩ := hiv
        subst hivv
        obtain ⟨il, hil⟩ : ∃ il, gi.length = il := ⟨_, rfl⟩
        have Hil := Lib.hid hil
        simp only at c0 c1 c2 hic
        rw [hil] at c2 hic
        have Hg := Lib.hid hg
        obtain ⟨hns, hgi⟩ := HGo.out _ (List.mem_of_getElem? hg)
        have hns' : gn.size ≤ 9223372036854775807 := hns
        have hgz0 : -9223372036854775808 ≤ gz := hgi.1
        have hgz1 : gz ≤ 9223372036854775807 := hgi.2
        have HQ : Hid (Blk (wr.alloc (.cells #[.string gn, .int .i64 gz, .slice Ai il ci] 114)) wr.heap.size 114 #[.string gn, .int .i64 gz, .slice Ai il ci]) := Lib.hid (Blk.new _ _ _)
        have HC1 := Lib.hid (HC.out.alloc (.cells #[.string gn, .int .i64 gz, .slice Ai il ci] 114))
        have HO1 := Lib.hid (HO.out.below ((Below.refl _ _).alloc (Nat.le_refl _) (.cells #[.string gn, .int .i64 gz, .slice Ai il ci] 114)))
        clear hcell h3 hg hil hns hgi
        go_upto_region 8 with fail
        clear c0 c1 c2 hbw
        generalize hg6 : wr.heap.size = g6 at *
        generalize wr.alloc (.cells #[.string gn, .int .i64 gz, .slice Ai il ci] 114) = W1 at *
        have r0 := HQ.out.cell 0
        have hlt6 := HQ.out.lt
        clear hg6
        go_wp2_with fail
        refine (Name_any gn _ hns').mono ?_
        rintro e w' ⟨rfl, rfl⟩
        cases hnm : nameS gn
        · have HE : Hid (unitF gs fs = (12, (k : Int))) := Lib.hid (by
            have e1 := gBad_name (pre := gs.take k) (g := ⟨gn, gz, gi⟩) hnm
            rw [unit_g HMn.out Hg.out (by rw [e1]; decide) HN.out, e1])
          clear hnm
          go_wp2_with fail
          refine (Fault_any 12 (k : Int) _).mono ?_
          rintro e W9 ⟨rfl, hb9⟩
          have HC9 := Lib.hid (HC1.out.next hb9)
          have q0 := HC9.out.fault.cell 0
          have q1 := HC9.out.fault.cell 1
          have k0 := HC9.out.fault.frozen 0
          have k1 := HC9.out.fault.frozen 1
          have hlt9 := HC9.out.fault.lt
          clear hb9
          go_wp2_with fail
          exact end_cell rfl rfl (HC9.out.fault.set2 _ _) Tryz.underlying28 rfl (by kernel_rfl) rfl ⟨by rw [HE.out], (HC9.out.below.setCell hle1 _).setCell hle1 _⟩
        · have Hnm := Lib.hid hnm
          clear hnm
          go_wp2_with fail
          refine (ContainsS_any _ ((gs.take k).map Glob.name) gn _ HO1.out.strs).mono ?_
          rintro e W2 ⟨rfl, hb2⟩
          have HC2 := Lib.hid (HC1.out.next hb2)
          have HQ2 := Lib.hid (HQ.out.below hb2 hlt6)
          have HO2 := Lib.hid (HO1.out.below hb2)
          have r0 := HQ2.out.cell 0
          have r1 := HQ2.out.cell 1
          have r2 := HQ2.out.cell 2
          clear hb2 HC1 HQ HO1 hlt6
          cases hh : hadS ((gs.take k).map Glob.name) gn
          · have Hbh : Hid (((gs.take k).any fun h => h.name.toList == gn.toList) = false) := Lib.hid (by rw [← hadS_map]; exact hh)
            clear hh
            by_cases hr : 1 ≤ gz ∧ gz ≤ 200
            · have Hr := Lib.hid hr
              obtain ⟨hr1, hr2⟩ := hr
              have hwi := Within_any gz 1 200 W2
              rw [show decide (1 ≤ gz ∧ gz ≤ 200) = true by rw [decide_eq_true_eq]; exact Hr.out] at hwi
              have HWi := Lib.hid hwi
              clear hwi
              go_wp2_with fail
              refine HWi.out.mono ?_
              rintro e w' ⟨rfl, rfl⟩
              by_cases hil : gz < (il : Int)
              · have HE : Hid (unitF gs fs = (9, (k : Int))) := Lib.hid (by
                  have e1 := gBad_size (pre := gs.take k) (g := ⟨gn, gz, gi⟩) Hnm.out Hbh.out Hr.out (by simp only; rw [Hil.out]; exact hil)
                  rw [unit_g HMn.out Hg.out (by rw [e1]; decide) HN.out, e1])
                go_wp2_with fail
                refine (Fault_any 9 (k : Int) _).mono ?_
                rintro e W9 ⟨rfl, hb9⟩
                have HC9 := Lib.hid (HC2.out.next hb9)
                have q0 := HC9.out.fault.cell 0
                have q1 := HC9.out.fault.cell 1
                have k0 := HC9.out.fault.frozen 0
                have k1 := HC9.out.fault.frozen 1
                have hlt9 := HC9.out.fault.lt
                clear hb9
                go_wp2_with fail
                exact end_cell rfl rfl (HC9.out.fault.set2 _ _) Tryz.underlying28 rfl (by kernel_rfl) rfl ⟨by rw [HE.out], (HC9.out.below.setCell hle1 _).setCell hle1 _⟩
              · by_cases hmu : 200 < z + gz
                · have HE : Hid (unitF gs fs = (10, (k : Int))) := Lib.hid (by
                    have e1 := gBad_much (pre := gs.take k) (g := ⟨gn, gz, gi⟩) Hnm.out Hbh.out Hr.out (by simp only; rw [Hil.out]; exact hil) (by simp only; rw [← Hz.out]; exact hmu)
                    rw [unit_g HMn.out Hg.out (by rw [e1]; decide) HN.out, e1])
                  go_wp2_with fail
                  refine (Fault_any 10 (k : Int) _).mono ?_
                  rintro e W9 ⟨rfl, hb9⟩
                  have HC9 := Lib.hid (HC2.out.next hb9)
                  have q0 := HC9.out.fault.cell 0
                  have q1 := HC9.out.fault.cell 1
                  have k0 := HC9.out.fault.frozen 0
                  have k1 := HC9.out.fault.frozen 1
                  have hlt9 := HC9.out.fault.lt
                  clear hb9
                  go_wp2_with fail
                  exact end_cell rfl rfl (HC9.out.fault.set2 _ _) Tryz.underlying28 rfl (by kernel_rfl) rfl ⟨by rw [HE.out], (HC9.out.below.setCell hle1 _).setCell hle1 _⟩
                · have HN2 : Hid (∀ j, j < k + 1 → gBadAt gs j = 0) := Lib.hid fun j hj => by
                    rcases Nat.lt_or_ge j k with h | h
                    · exact HN.out j h
                    · obtain rfl : j = k := by omega
                      have e1 := gBad_ok (pre := gs.take j) (g := ⟨gn, gz, gi⟩) Hnm.out Hbh.out Hr.out (by simp only; rw [Hil.out]; exact hil) (by simp only; rw [← Hz.out]; exact hmu)
                      unfold gBadAt
                      rw [Hg.out]
                      exact e1
                  have Hz2 : Hid (z + gz = sumG (gs.take (k + 1))) := Lib.hid (by rw [sumG_snoc gs k _ Hg.out, ← Hz.out])
                  have hz := HC2.out.below.size
                  have hln : ((gs.take k).map Glob.name).length ≤ 10 := by rw [List.length_map, List.length_take]; omega
                  go_wp2_with (at_builtin; refine app_one rfl _ _ 112 9 rfl (.string ⟨#[]⟩) 1 16 Tryz.underlying112 info_str rfl (by decide) (by decide) w.heap.size _ _ _ (by rfl) HO2.out _ [.string gn] (by rfl) rfl (fun x hx => by simp at hx; subst hx; rfl) rfl (by omega) hz ?_; intro v4 w4 HA4; have hq4 := HA4.out.blk HO2.out HQ2.out (by decide); have s1 := hq4.cell 1; clear hq4)
                  have HC4 := Lib.hid (HC2.out.app HO2.out HA4.out)
                  have HO4 : Hid (OwnStrs w4 w.heap.size v4 ((gs.take (k + 1)).map Glob.name)) := Lib.hid (by rw [gnames_snoc Hg.out]; exact strs_snoc HA4.out.own)
                  go_roundw
                  case rel => exact ⟨k + 1, z + gz, by omega, by go_num, rfl, Hz2, by omega, by omega, HN2, HO4, HC4⟩
                  case measure => simp [intOf]; omega
            · have HE : Hid (unitF gs fs = (3, (k : Int))) := Lib.hid (by
                have e1 := gBad_range (pre := gs.take k) (g := ⟨gn, gz, gi⟩) Hnm.out Hbh.out hr
                rw [unit_g HMn.out Hg.out (by rw [e1]; decide) HN.out, e1])
              have hwi := Within_any gz 1 200 W2
              rw [show decide (1 ≤ gz ∧ gz ≤ 200) = false by rw [decide_eq_false_iff_not]; exact hr] at hwi
              have HWi := Lib.hid hwi
              clear hwi hr
              go_wp2_with fail
              refine HWi.out.mono ?_
              rintro e w' ⟨rfl, rfl⟩
              go_wp2_with fail
              refine (Fault_any 3 (k : Int) _).mono ?_
              rintro e W9 ⟨rfl, hb9⟩
              have HC9 := Lib.hid (HC2.out.next hb9)
              have q0 := HC9.out.fault.cell 0
              have q1 := HC9.out.fault.cell 1
              have k0 := HC9.out.fault.frozen 0
              have k1 := HC9.out.fault.frozen 1
              have hlt9 := HC9.out.fault.lt
              clear hb9
              go_wp2_with fail
              exact end_cell rfl rfl (HC9.out.fault.set2 _ _) Tryz.underlying28 rfl (by kernel_rfl) rfl ⟨by rw [HE.out], (HC9.out.below.setCell hle1 _).setCell hle1 _⟩
          · have HE : Hid (unitF gs fs = (7, (k : Int))) := Lib.hid (by
              have e1 := gBad_had (pre := gs.take k) (g := ⟨gn, gz, gi⟩) Hnm.out (by rw [← hadS_map]; exact hh)
              rw [unit_g HMn.out Hg.out (by rw [e1]; decide) HN.out, e1])
            clear hh
            go_wp2_with fail
            refine (Fault_any 7 (k : Int) _).mono ?_
            rintro e W9 ⟨rfl, hb9⟩
            have HC9 := Lib.hid (HC2.out.next hb9)
            have q0 := HC9.out.fault.cell 0
            have q1 := HC9.out.fault.cell 1
            have k0 := HC9.out.fault.frozen 0
            have k1 := HC9.out.fault.frozen 1
            have hlt9 := HC9.out.fault.lt
            clear hb9
            go_wp2_with fail
            exact end_cell rfl rfl (HC9.out.fault.set2 _ _) Tryz.underlying28 rfl (by kernel_rfl) rfl ⟨by rw [HE.out], (HC9.out.below.setCell hle1 _).setCell hle1 _⟩
      · obtain rfl : k = gl := by omega
        have HGs : Hid ((globF gs).1 = 0) := Lib.hid (unit_gs HMn.out (fun j hj => HN.out j (by rw [HGl.out] at hj; exact hj)))
        have HO0 : Hid (OwnStrs wr w.heap.size u3 (namesH gs fs 0)) := Lib.hid (by
          have := HO.out
          rw [← HGl.out, List.take_length] at this
          unfold namesH
          simpa using this)
        have u1 := HC.out.unit.cell 1
        clear HN HO Hz
        obtain ⟨gl, rfl⟩ : ∃ gl, gl = k := ⟨_, rfl⟩
        go_wp2_with fail
        go_loopw [3, 82] (fun nv i wr => ∃ k : Nat, k ≤ fl ∧ i = .int .i64 k ∧ Hid (∀ j, j < k → badOf (headF gs fs) fs j = 0) ∧ Hid (OwnStrs wr w.heap.size nv (namesH gs fs k)) ∧ Hid (ChkNow w wr g1 (.slice gA gl gc) (.slice fA fl fc))) (fun _ i _ => fl - (intOf i).toNat)
        case atStart => exact ⟨0, Nat.zero_le _, rfl, Lib.hid (fun j h => absurd h (Nat.not_lt_zero j)), HO0, HC⟩
        case round =>
          clear HO0 HC u1
          obtain ⟨k, hk, rfl, HN, HO, HC⟩ := hrel
          by_cases hlt : k < fl
          · skip
            obtain ⟨⟨nm, ps, regs, blocks⟩, hx⟩ : ∃ f, fs[k]? = some f := ⟨fs[k]'(by rw [HFl.out]; exact hlt), List.getElem?_eq_getElem _⟩
            obtain ⟨fb, foff, hfA, hfb, us, ⟨bv, rfl, hbv⟩, hcell⟩ := SlAt.at HF.out hx
            have hBw := HC.out.below
            have d0 := (bcell hBw hfb).trans (hcell 0 _ rfl)
            have d1 := (bcell hBw hfb).trans (hcell 1 _ rfl)
            have d2 := (bcell hBw hfb).trans (hcell 2 _ rfl)
            have d3 := (bcell hBw hfb).trans (hcell 3 _ rfl)
            simp only [Nat.add_zero] at d0
            obtain ⟨bA, bc, rfl, hblc, hb63⟩ := SlAt.form hbv
            simp only at hbv d0 d1 d2 d3 hblc
            obtain ⟨bl, hbl⟩ : ∃ bl, blocks.length = bl := ⟨_, rfl⟩
            rw [hbl] at d3 hblc hbv
            have Hbl := Lib.hid hbl
            have Hbv := Lib.hid hbv
            have Hx := Lib.hid hx
            have hok := HFo.out _ (List.mem_of_getElem? hx)
            have Hok := Lib.hid hok
            have hk0 : (0 : Int) ≤ (k : Int) := Int.natCast_nonneg k
            have hk1 : (k : Int) < (fl : Int) := by omega
            have u0 := HC.out.unit.cell 0
            have u1 := HC.out.unit.cell 1
            have hltU := HC.out.unit.lt
            have HQ : Hid (Blk ((wr.alloc (.cells #[.string nm, .int .i64 ps, .int .i64 regs, .slice bA bl bc] 43)).alloc (.cells #[.slice gA gl gc, .slice fA fl fc, .string nm, .int .i64 ps, .int .i64 regs, .slice bA bl bc, .slice none 0 0] 118)) wr.heap.size 43 #[.string nm, .int .i64 ps, .int .i64 regs, .slice bA bl bc]) := Lib.hid ((Blk.new _ _ _).alloc _)
            have HC1 := Lib.hid ((HC.out.alloc (.cells #[.string nm, .int .i64 ps, .int .i64 regs, .slice bA bl bc] 43)).alloc (.cells #[.slice gA gl gc, .slice fA fl fc, .string nm, .int .i64 ps, .int .i64 regs, .slice bA bl bc, .slice none 0 0] 118))
            have HO1 := Lib.hid ((HO.out.below ((Below.refl _ _).alloc (Nat.le_refl _) (.cells #[.string nm, .int .i64 ps, .int .i64 regs, .slice bA bl bc] 43))).below ((Below.refl _ _).alloc (Nat.le_refl _) (.cells #[.slice gA gl gc, .slice fA fl fc, .string nm, .int .i64 ps, .int .i64 regs, .slice bA bl bc, .slice none 0 0] 118)))
            subst hfA
            clear hbv hx hok hbl hcell
            go_upto_region 28 with fail
            have K6 : Hid (Blk ((wr.alloc (.cells #[.string nm, .int .i64 ps, .int .i64 regs, .slice bA bl bc] 43)).alloc (.cells #[.slice gA gl gc, .slice (some ⟨fb, foff, none⟩) fl fc, .string nm, .int .i64 ps, .int .i64 regs, .slice bA bl bc, .slice none 0 0] 118)) (wr.heap.size + 1) 118 #[.slice gA gl gc, .slice (some ⟨fb, foff, none⟩) fl fc, .string nm, .int .i64 ps, .int .i64 regs, .slice bA bl bc, .slice none 0 0]) := Lib.hid (by simpa using Blk.new (wr.alloc (.cells #[.string nm, .int .i64 ps, .int .i64 regs, .slice bA bl bc] 43)) 118 #[.slice gA gl gc, .slice (some ⟨fb, foff, none⟩) fl fc, .string nm, .int .i64 ps, .int .i64 regs, .slice bA bl bc, .slice none 0 0])
            clear d0 d1 d2 d3 u0 u1 hltU hfb hBw
            generalize hg10 : wr.heap.size + 1 = g10 at *
            generalize wr.heap.size = g9 at *
            generalize (wr.alloc (.cells #[.string nm, .int .i64 ps, .int .i64 regs, .slice bA bl bc] 43)).alloc (.cells #[.slice gA gl gc, .slice (some ⟨fb, foff, none⟩) fl fc, .string nm, .int .i64 ps, .int .i64 regs, .slice bA bl bc, .slice none 0 0] 118) = W1 at *
            clear hg10
            have e0 := K6.out.cell 0
            have e1 := K6.out.cell 1
            have e2 := K6.out.cell 2
            have e3 := K6.out.cell 3
            have e4 := K6.out.cell 4
            have e5 := K6.out.cell 5
            have e6 := K6.out.cell 6
            go_wp2_with fail
            refine (head_any gA _ bA gl gc fl fc bl bc nm ps regs _ (namesH gs fs k) blocks _ Hok.out.params Hok.out.regs Hok.out.name (Hbv.out.move HC1.out.below.size (kept_of HC1.out.below (Nat.le_refl _))) HO1.out.strs).mono ?_
            rintro e W2 ⟨rfl, hb2⟩
            have HC2 := Lib.hid (HC1.out.next hb2)
            have HQ2 := Lib.hid (HQ.out.below hb2 HQ.out.lt)
            have HO2 := Lib.hid (HO1.out.below hb2)
            have r0 := HQ2.out.cell 0
            clear hb2 HC1 HQ HO1 K6 e0 e1 e2 e3 e4 e5 e6
            by_cases he : headE (namesH gs fs k) ⟨nm, ps, regs, blocks⟩ = 0
            · have HN2 : Hid (∀ j, j < k + 1 → badOf (headF gs fs) fs j = 0) := Lib.hid (bad_step (f := headF gs fs) Hx.out he HN.out)
              rw [he]
              have hz := HC2.out.below.size
              have hln : (namesH gs fs k).length ≤ 20 := by
                unfold namesH
                rw [List.length_append, List.length_map, List.length_map, List.length_take, HGl.out]
                omega
              go_wp2_with (at_builtin; refine app_one rfl _ _ 112 9 rfl (.string ⟨#[]⟩) 1 16 Tryz.underlying112 info_str rfl (by decide) (by decide) w.heap.size _ _ _ (by rfl) HO2.out _ [.string nm] (by rfl) rfl (fun x hx => by simp at hx; subst hx; rfl) rfl (by omega) hz ?_; intro v4 w4 HA4)
              have HC4 := Lib.hid (HC2.out.app HO2.out HA4.out)
              have HO4 : Hid (OwnStrs w4 w.heap.size v4 (namesH gs fs (k + 1))) := Lib.hid (by rw [namesH_snoc Hx.out]; exact strs_snoc HA4.out.own)
              go_roundw
              case rel => exact ⟨k + 1, by omega, by go_num, HN2, HO4, HC4⟩
              case measure => simp [intOf]; omega
            · have HE : Hid (unitF gs fs = (headE (namesH gs fs k) ⟨nm, ps, regs, blocks⟩, (k : Int))) := Lib.hid (unit_h HMn.out HGs.out Hx.out he HN.out)
              have hne : (headE (namesH gs fs k) ⟨nm, ps, regs, blocks⟩ != 0) = true := by simpa using he
              clear he
              generalize headE (namesH gs fs k) ⟨nm, ps, regs, blocks⟩ = ev at *
              go_wp2_with fail
              refine (Fault_any ev (k : Int) _).mono ?_
              rintro e W9 ⟨rfl, hb9⟩
              have HC9 := Lib.hid (HC2.out.next hb9)
              have q0 := HC9.out.fault.cell 0
              have q1 := HC9.out.fault.cell 1
              have k0 := HC9.out.fault.frozen 0
              have k1 := HC9.out.fault.frozen 1
              have hlt9 := HC9.out.fault.lt
              clear hb9
              go_wp2_with fail
              exact end_cell rfl rfl (HC9.out.fault.set2 _ _) Tryz.underlying28 rfl (by kernel_rfl) rfl ⟨by rw [HE.out], (HC9.out.below.setCell hle1 _).setCell hle1 _⟩
          · obtain rfl : k = fl := by omega
            have HHs : Hid (∀ j, j < fs.length → badOf (headF gs fs) fs j = 0) := Lib.hid (by rw [HFl.out]; exact HN.out)
            have u1 := HC.out.unit.cell 1
            clear HN HO
            obtain ⟨fl, rfl⟩ : ∃ fl, fl = k := ⟨_, rfl⟩
            go_wp2_with fail
            go_loopw [107] (fun i wr => ∃ k : Nat, k ≤ fl ∧ i = .int .i64 k ∧ Hid (∀ j, j < k → badOf (bodyF fs) fs j = 0) ∧ Hid (ChkNow w wr g1 (.slice gA gl gc) (.slice fA fl fc))) (fun i _ => fl - (intOf i).toNat)
            case atStart => exact ⟨0, Nat.zero_le _, rfl, Lib.hid (fun j h => absurd h (Nat.not_lt_zero j)), HC⟩
            case round =>
              clear HC u1
              obtain ⟨k, hk, rfl, HN, HC⟩ := hrel
              by_cases hlt : k < fl
              · skip
                obtain ⟨⟨nm, ps, regs, blocks⟩, hx⟩ : ∃ f, fs[k]? = some f := ⟨fs[k]'(by rw [HFl.out]; exact hlt), List.getElem?_eq_getElem _⟩
                obtain ⟨fb, foff, hfA, hfb, us, ⟨bv, rfl, hbv⟩, hcell⟩ := SlAt.at HF.out hx
                have hBw := HC.out.below
                have d0 := (bcell hBw hfb).trans (hcell 0 _ rfl)
                have d1 := (bcell hBw hfb).trans (hcell 1 _ rfl)
                have d2 := (bcell hBw hfb).trans (hcell 2 _ rfl)
                have d3 := (bcell hBw hfb).trans (hcell 3 _ rfl)
                simp only [Nat.add_zero] at d0
                obtain ⟨bA, bc, rfl, hblc, hb63⟩ := SlAt.form hbv
                simp only at hbv d0 d1 d2 d3 hblc
                obtain ⟨bl, hbl⟩ : ∃ bl, blocks.length = bl := ⟨_, rfl⟩
                rw [hbl] at d3 hblc hbv
                have Hbl := Lib.hid hbl
                have Hbv := Lib.hid hbv
                have Hx := Lib.hid hx
                have hok := HFo.out _ (List.mem_of_getElem? hx)
                have Hok := Lib.hid hok
                have hk0 : (0 : Int) ≤ (k : Int) := Int.natCast_nonneg k
                have hk1 : (k : Int) < (fl : Int) := by omega
                have u0 := HC.out.unit.cell 0
                have u1 := HC.out.unit.cell 1
                have hltU := HC.out.unit.lt
                have hHd := head_ok (show headE (namesH gs fs k) ⟨nm, ps, regs, blocks⟩ = 0 from by have := HHs.out k (List.getElem?_eq_some_iff.1 hx).1; rw [badOf_at hx] at this; exact this)
                have Hrg : Hid (0 ≤ regs ∧ regs ≤ 100) := Lib.hid ⟨Int.le_trans hHd.p0 hHd.r0, hHd.r1⟩
                have Hb40 : Hid (blocks.length ≤ 40) := Lib.hid hHd.b1
                have HC1 := Lib.hid ((HC.out.alloc (.cells #[.string nm, .int .i64 ps, .int .i64 regs, .slice bA bl bc] 43)).alloc (.cells #[.slice gA gl gc, .slice fA fl fc, .string nm, .int .i64 ps, .int .i64 regs, .slice bA bl bc, .slice none 0 0] 118))
                subst hfA
                clear hbv hx hok hbl hcell hHd
                go_upto_region 37 with fail
                have K6 : Hid (Blk ((wr.alloc (.cells #[.string nm, .int .i64 ps, .int .i64 regs, .slice bA bl bc] 43)).alloc (.cells #[.slice gA gl gc, .slice (some ⟨fb, foff, none⟩) fl fc, .string nm, .int .i64 ps, .int .i64 regs, .slice bA bl bc, .slice none 0 0] 118)) (wr.heap.size + 1) 118 #[.slice gA gl gc, .slice (some ⟨fb, foff, none⟩) fl fc, .string nm, .int .i64 ps, .int .i64 regs, .slice bA bl bc, .slice none 0 0]) := Lib.hid (by simpa using Blk.new (wr.alloc (.cells #[.string nm, .int .i64 ps, .int .i64 regs, .slice bA bl bc] 43)) 118 #[.slice gA gl gc, .slice (some ⟨fb, foff, none⟩) fl fc, .string nm, .int .i64 ps, .int .i64 regs, .slice bA bl bc, .slice none 0 0])
                clear d0 d1 d2 d3 u0 u1 hltU hfb hBw
                generalize hg10 : wr.heap.size + 1 = g10 at *
                generalize wr.heap.size = g9 at *
                generalize (wr.alloc (.cells #[.string nm, .int .i64 ps, .int .i64 regs, .slice bA bl bc] 43)).alloc (.cells #[.slice gA gl gc, .slice (some ⟨fb, foff, none⟩) fl fc, .string nm, .int .i64 ps, .int .i64 regs, .slice bA bl bc, .slice none 0 0] 118) = W1 at *
                clear hg10
                have e0 := K6.out.cell 0
                have e1 := K6.out.cell 1
                have e2 := K6.out.cell 2
                have e3 := K6.out.cell 3
                have e4 := K6.out.cell 4
                have e5 := K6.out.cell 5
                have e6 := K6.out.cell 6
                go_wp2_with fail
                refine (body_any gA _ bA gl gc fl fc bl bc nm ps regs blocks fs _ Hrg.out (Hbv.out.move HC1.out.below.size (kept_of HC1.out.below (Nat.le_refl _))) Hb40.out Hok.out.blocks (HWays.out.own HC1.out.below) (HF.out.move HC1.out.below.size (kept_of HC1.out.below (Nat.le_refl _)))).mono ?_
                rintro e W2 ⟨rfl, hb2⟩
                have HC2 := Lib.hid (HC1.out.next hb2)
                clear hb2 HC1 K6 e0 e1 e2 e3 e4 e5 e6
                by_cases he : bodyE (fs.map FunU.params) ⟨nm, ps, regs, blocks⟩ = 0
                · have HN2 : Hid (∀ j, j < k + 1 → badOf (bodyF fs) fs j = 0) := Lib.hid (bad_step (f := bodyF fs) Hx.out he HN.out)
                  rw [he]
                  go_wp2_with fail
                  go_roundw
                  case rel => exact ⟨k + 1, by omega, by go_num, HN2, HC2⟩
                  case measure => simp [intOf]; omega
                · have HE : Hid (unitF gs fs = (bodyE (fs.map FunU.params) ⟨nm, ps, regs, blocks⟩, (k : Int))) := Lib.hid (unit_b HMn.out HGs.out HHs.out Hx.out he HN.out)
                  have hne : (bodyE (fs.map FunU.params) ⟨nm, ps, regs, blocks⟩ != 0) = true := by simpa using he
                  clear he
                  generalize bodyE (fs.map FunU.params) ⟨nm, ps, regs, blocks⟩ = ev at *
                  go_wp2_with fail
                  refine (Fault_any ev (k : Int) _).mono ?_
                  rintro e W9 ⟨rfl, hb9⟩
                  have HC9 := Lib.hid (HC2.out.next hb9)
                  have q0 := HC9.out.fault.cell 0
                  have q1 := HC9.out.fault.cell 1
                  have k0 := HC9.out.fault.frozen 0
                  have k1 := HC9.out.fault.frozen 1
                  have hlt9 := HC9.out.fault.lt
                  clear hb9
                  go_wp2_with fail
                  exact end_cell rfl rfl (HC9.out.fault.set2 _ _) Tryz.underlying28 rfl (by kernel_rfl) rfl ⟨by rw [HE.out], (HC9.out.below.setCell hle1 _).setCell hle1 _⟩
              · obtain rfl : k = fl := by omega
                have HM : Hid (unitF gs fs = mainF fs) := Lib.hid (unit_m HMn.out HGs.out HHs.out (by rw [HFl.out]; exact HN.out))
                have u1 := HC.out.unit.cell 1
                go_wp2_with fail
                refine (IndexF_any 69 _ fs (fun f => mainU f.name) _ (HF.out.move HC.out.below.size (kept_of HC.out.below (Nat.le_refl _))) (fun a W => MuLone.run_callFunc_enter Tryz.func69 (by kernel_rfl) rfl a W) (fun us g V _ _ hus => ?_)).mono ?_
                · obtain ⟨bv, rfl, hb⟩ := hus
                  obtain ⟨bA, bc, rfl, _, _⟩ := SlAt.form hb
                  exact isMain_any g.name g.params g.regs bA _ bc V
                rintro e W2 ⟨rfl, hb2⟩
                have HC2 := Lib.hid (HC.out.next hb2)
                have u1 := HC2.out.unit.cell 1
                clear hb2
                rcases firstS_cases (fun f : FunU => mainU f.name) fs with ⟨h1, h2⟩ | ⟨i, f, h1, hi, hm, h2⟩
                · have HE : Hid (unitF gs fs = (6, 0)) := Lib.hid (HM.out.trans (mainF_none h2))
                  rw [h1]
                  clear h1 h2
                  go_wp2_with fail
                  refine (Fault_any 6 0 _).mono ?_
                  rintro e W9 ⟨rfl, hb9⟩
                  have HC9 := Lib.hid (HC2.out.next hb9)
                  have q0 := HC9.out.fault.cell 0
                  have q1 := HC9.out.fault.cell 1
                  have k0 := HC9.out.fault.frozen 0
                  have k1 := HC9.out.fault.frozen 1
                  have hlt9 := HC9.out.fault.lt
                  clear hb9
                  go_wp2_with fail
                  exact end_cell rfl rfl (HC9.out.fault.set2 _ _) Tryz.underlying28 rfl (by kernel_rfl) rfl ⟨by rw [HE.out], (HC9.out.below.setCell hle1 _).setCell hle1 _⟩
                · have HMh := Lib.hid (HM.out.trans (mainF_hit hi hm h2))
                  rw [h1]
                  have hil : i < k := by rw [← HFl.out]; exact (List.getElem?_eq_some_iff.1 hi).1
                  obtain ⟨fb, foff, g, hfA, hfb, hgi, _, hcp⟩ := HF.out.params hil
                  obtain rfl : g = f := by rw [hi] at hgi; cases hgi; rfl
                  have d1 := (bcell HC2.out.below hfb).trans hcp
                  have hpp := (HFo.out _ (List.mem_of_getElem? hi)).params
                  have hp0 := hpp.1
                  have hp1 := hpp.2
                  subst hfA
                  have hi0 : (0 : Int) ≤ (i : Int) := Int.natCast_nonneg i
                  have hi1 : (i : Int) < (k : Int) := by omega
                  clear h1 h2 hi hm hgi hcp hfb hpp
                  generalize g.params = p at *
                  by_cases hp : 0 < p
                  · have HE : Hid (unitF gs fs = (5, (i : Int))) := Lib.hid (HMh.out.trans (if_pos hp))
                    go_wp2_with fail
                    refine (Fault_any 5 (i : Int) _).mono ?_
                    rintro e W9 ⟨rfl, hb9⟩
                    have HC9 := Lib.hid (HC2.out.next hb9)
                    have q0 := HC9.out.fault.cell 0
                    have q1 := HC9.out.fault.cell 1
                    have k0 := HC9.out.fault.frozen 0
                    have k1 := HC9.out.fault.frozen 1
                    have hlt9 := HC9.out.fault.lt
                    clear hb9
                    go_wp2_with fail
                    exact end_cell rfl rfl (HC9.out.fault.set2 _ _) Tryz.underlying28 rfl (by kernel_rfl) rfl ⟨by rw [HE.out], (HC9.out.below.setCell hle1 _).setCell hle1 _⟩
                  · have HE : Hid (unitF gs fs = (0, 0)) := Lib.hid (HMh.out.trans (if_neg hp))
                    have q0 := HC2.out.fault.cell 0
                    have q1 := HC2.out.fault.cell 1
                    have k0 := HC2.out.fault.frozen 0
                    have k1 := HC2.out.fault.frozen 1
                    have hlt9 := HC2.out.fault.lt
                    go_wp2_with fail
                    exact end_cell rfl rfl (HC2.out.fault.set2 _ _) Tryz.underlying28 rfl (by kernel_rfl) rfl ⟨by rw [HE.out], (HC2.out.below.setCell hle1 _).setCell hle1 _⟩
end Go.Proofs.YtiknhfbkphoceaaGreatDoor
