/-
  Contract of machine.Run.
  Conditions: the slices read as globals, routines and numbers; the table shapes lies as its initialiser lays it.
-/
import Derived.Test.YtkiaffaieniebaaDoorRuI
namespace Go.Proofs.YtkiaffaieniebaaDoor
open Go.RowKit

/-- What a run says: its outcome, its fault. -/
def OutPost (w : World) (s : Mch) (f : Int × Int) (e : Ending) (w' : World) : Prop :=
  ∃ ov, e = .returned (.tuple #[.agg #[.int .i64 s.state, .int .i64 s.value, ov, .int .i64 (s.steps : Int)], .agg #[.int .i64 f.1, .int .i64 f.2]]) ∧ w'.ownsRow w.heap.size 3 1 ov s.out.length (intV s.out) ∧ Below w.heap.size w w'
theorem run1_any (r pc : Int) (w : World) : Calls Tryd.prog 34 #[.int .i64 r, .int .i64 pc] w fun e w' => e = .returned (.tuple #[]) ∧ w = w' := by
  go_enter Tryd.func34, Tryd.ntmps34
  go_wp2_with fail
  go_end0
  exact ⟨rfl, rfl⟩
theorem run1_does (w : World) (b0 : Nat) : MetDoes 34 #[] w b0 (fun _ _ => True) := by
  refine ⟨fun a W => MuLone.run_callFunc_enter Tryd.func34 (by kernel_rfl) rfl a W, fun r pc W tr _ _ => ?_⟩
  refine (run1_any (r : Int) (pc : Int) W).mono ?_
  rintro e w' ⟨rfl, rfl⟩
  exact ⟨rfl, KeepC.refl _, Below.refl _ _, trivial⟩
set_option maxRecDepth 100000 in
set_option maxHeartbeats 2000000 in
theorem Run_any (gv rv iv : Value) (gs : List Glob) (rs : List Rout) (inp : List Int) (fuel : Int) (w : World) (hg : GlobsAt w w.heap.size gv gs) (hr : RoutsAt w w.heap.size rv rs) (hin : IntsAt w w.heap.size iv inp)
    (hgo : GOk gs) (hro : ROk rs) (ht : Tab w) : Calls Tryd.prog 14 #[.agg #[gv, rv], iv, .int .i64 fuel] w (OutPost w (runO gs rs inp fuel) (runF gs rs inp fuel)) := by
  have hA : Below w.heap.size w (((w.alloc (.cells #[gv, rv] 36)).alloc (.cells #[.int .i64 0, .int .i64 0, .slice none 0 0, .int .i64 0] 28)).alloc (.cells #[.int .i64 0, .int .i64 0] 30)) := (((Below.refl _ _).alloc (Nat.le_refl _) _).alloc (by simp) _).alloc (by simp; omega) _
  have HN : Hid (RunNow w w.heap.size w.heap.size gv rv (fun _ _ => True) [] (((w.alloc (.cells #[gv, rv] 36)).alloc (.cells #[.int .i64 0, .int .i64 0, .slice none 0 0, .int .i64 0] 28)).alloc (.cells #[.int .i64 0, .int .i64 0] 30))) := Lib.hid
    ⟨((Blk.new w _ _).alloc _).alloc _, Blk.alloc (by have := Blk.new (w.alloc (.cells #[gv, rv] 36)) 28 #[.int .i64 0, .int .i64 0, .slice none 0 0, .int .i64 0]; simpa using this) _,
      by have := Blk.new ((w.alloc (.cells #[gv, rv] 36)).alloc (.cells #[.int .i64 0, .int .i64 0, .slice none 0 0, .int .i64 0] 28)) 30 #[.int .i64 0, .int .i64 0]; simpa using this, hA, trivial, fun g t cs hg hc => hc.below hA hg⟩
  have HZ : Hid (w.heap.size + 3 ≤ (((w.alloc (.cells #[gv, rv] 36)).alloc (.cells #[.int .i64 0, .int .i64 0, .slice none 0 0, .int .i64 0] 28)).alloc (.cells #[.int .i64 0, .int .i64 0] 30)).heap.size) := Lib.hid (by simp)
  have HCall := Lib.hid (run_any 34 #[] gv rv iv gs rs inp fuel (((w.alloc (.cells #[gv, rv] 36)).alloc (.cells #[.int .i64 0, .int .i64 0, .slice none 0 0, .int .i64 0] 28)).alloc (.cells #[.int .i64 0, .int .i64 0] 30)) w.heap.size (fun _ _ => True)
    (hg.below hA (Nat.le_refl _)) (hr.below hA (Nat.le_refl _)) (hin.below hA (Nat.le_refl _)) hgo hro (ht.own hA) (by have := HZ.out; omega) (fun _ _ _ _ _ => trivial) trivial (run1_does _ _))
  clear hA hg hr hin hgo hro ht
  obtain ⟨fR, hfR⟩ : ∃ f, runF gs rs inp fuel = f := ⟨_, rfl⟩
  obtain ⟨sR, hsR⟩ : ∃ f, runO gs rs inp fuel = f := ⟨_, rfl⟩
  rw [hfR, hsR] at HCall ⊢
  clear hfR hsR
  obtain ⟨f1, f2⟩ := fR
  obtain ⟨PE, hPE⟩ : ∃ PE, OutPost w sR (f1, f2) = PE := ⟨_, rfl⟩
  rw [hPE]
  have HPE := Lib.hid hPE
  clear hPE
  go_enter Tryd.func14, Tryd.ntmps14
  go_wp2_with fail
  generalize ((w.alloc (.cells #[gv, rv] 36)).alloc (.cells #[.int .i64 0, .int .i64 0, .slice none 0 0, .int .i64 0] 28)).alloc (.cells #[.int .i64 0, .int .i64 0] 30) = W at *
  refine HCall.out.mono ?_
  rintro e w1 ⟨v, ov, rfl, _, hov, hb1, _, hkeep⟩
  obtain ⟨Ao, co, rfl⟩ := row_form hov
  obtain ⟨n, hn⟩ : ∃ n, sR.out.length = n := ⟨_, rfl⟩
  have Hn := Lib.hid hn
  rw [hn] at hov
  have HO := Lib.hid hov
  have hzW := HZ.out
  have hA2 : Below w1.heap.size w1 ((w1.alloc (.cells #[.int .i64 sR.state, .int .i64 sR.value, .slice Ao n co, .int .i64 (sR.steps : Int)] 28)).alloc (.cells #[.int .i64 f1, .int .i64 f2] 30)) := ((Below.refl _ _).alloc (Nat.le_refl _) _).alloc (by simp) _
  have hz1 : W.heap.size ≤ w1.heap.size := hb1.size
  have HN2 : Hid (RunNow w w.heap.size w.heap.size gv rv (fun _ _ => True) [] ((w1.alloc (.cells #[.int .i64 sR.state, .int .i64 sR.value, .slice Ao n co, .int .i64 (sR.steps : Int)] 28)).alloc (.cells #[.int .i64 f1, .int .i64 f2] 30))) := Lib.hid
    ⟨(hkeep _ _ _ HN.out.img).below hA2 (by omega), (hkeep _ _ _ HN.out.res).below hA2 (by omega), (hkeep _ _ _ HN.out.flt).below hA2 (by omega), HN.out.below.trans (hb1.trans (hA2.mono (by omega))), trivial, fun g t cs hg hc => ((hc.below HN.out.below hg).below hb1 hg).below hA2 (by omega)⟩
  have HK9 := Lib.hid ((Blk.new w1 28 #[.int .i64 sR.state, .int .i64 sR.value, .slice Ao n co, .int .i64 (sR.steps : Int)]).alloc (.cells #[.int .i64 f1, .int .i64 f2] 30))
  have HK10 : Hid (Blk ((w1.alloc (.cells #[.int .i64 sR.state, .int .i64 sR.value, .slice Ao n co, .int .i64 (sR.steps : Int)] 28)).alloc (.cells #[.int .i64 f1, .int .i64 f2] 30)) (w1.heap.size + 1) 30 #[.int .i64 f1, .int .i64 f2]) := Lib.hid (by
    have := Blk.new (w1.alloc (.cells #[.int .i64 sR.state, .int .i64 sR.value, .slice Ao n co, .int .i64 (sR.steps : Int)] 28)) 30 #[.int .i64 f1, .int .i64 f2]
    simpa using this)
  have HO2 := Lib.hid (row_lt HO.out hA2)
  clear hkeep hov hb1 hA2 hn HN HCall
  go_upto_region 2 with fail
  rw [Hn.out]
  generalize (w1.alloc (.cells #[.int .i64 sR.state, .int .i64 sR.value, .slice Ao n co, .int .i64 (sR.steps : Int)] 28)).alloc (.cells #[.int .i64 f1, .int .i64 f2] 30) = W2 at *
  generalize w1.heap.size = g1 at *
  have a0 := HK9.out.cell 0
  have a1 := HK9.out.cell 1
  have a2 := HK9.out.cell 2
  have a3 := HK9.out.cell 3
  have b0 := HK10.out.cell 0
  have b1 := HK10.out.cell 1
  have r0 := HN2.out.res.cell 0
  have r1 := HN2.out.res.cell 1
  have r2 := HN2.out.res.cell 2
  have r3 := HN2.out.res.cell 3
  have k0 := HN2.out.flt.cell 0
  have k1 := HN2.out.flt.cell 1
  have rf0 := HN2.out.res.frozen 0
  have rf1 := HN2.out.res.frozen 1
  have rf2 := HN2.out.res.frozen 2
  have rf3 := HN2.out.res.frozen 3
  have kf0 := HN2.out.flt.frozen 0
  have kf1 := HN2.out.flt.frozen 1
  go_region
  all_goals
    go_wp2_with fail
    have hend := HN2.out.end_ (.int .i64 sR.state) (.int .i64 sR.value) (.slice Ao n co) (.int .i64 (sR.steps : Int)) (.int .i64 f1) (.int .i64 f2)
    have hrow := HN2.out.row HO2.out (by decide) (by decide) (.int .i64 sR.state) (.int .i64 sR.value) (.slice Ao n co) (.int .i64 (sR.steps : Int)) (.int .i64 f1) (.int .i64 f2)
    refine end_cells rfl rfl rfl hend.1.drew hend.2.1.drew Tryd.underlying28 rfl Tryd.underlying30 rfl (by kernel_rfl) (by kernel_rfl) rfl ?_
    rw [← HPE.out]
    generalize (((((W2.setCell ⟨w.heap.size + 1, 0, none⟩ (.int .i64 sR.state)).setCell ⟨w.heap.size + 1, 1, none⟩ (.int .i64 sR.value)).setCell ⟨w.heap.size + 1, 2, none⟩ (.slice Ao n co)).setCell ⟨w.heap.size + 1, 3, none⟩ (.int .i64 (sR.steps : Int))).setCell ⟨w.heap.size + 1 + 1, 0, none⟩ (.int .i64 f1)).setCell ⟨w.heap.size + 1 + 1, 1, none⟩ (.int .i64 f2) = W6 at *
    exact ⟨_, rfl, row_le (World.ownsRow.drew (Hn.out ▸ hrow)) (Nat.le_trans (Nat.le_add_right _ 3) HZ.out), below_drew1 (HN2.out.below.trans (hend.2.2.mono (by omega)))⟩
end Go.Proofs.YtkiaffaieniebaaDoor
