/-
  asm.Text and its reference.
  Conditions: the tables lie as their initialisers lay them.
-/
import Derived.Test.YtdldochhondifaaGreatDoorAsH
import Derived.Test.YtdldochhondifaaGreatDoorKtP
import Derived.Test.YtdldochhondifaaGreatDoorLawA
import Derived.Conc.MuLone
namespace Go.Proofs.YtdldochhondifaaGreatDoor
open Go.RowKit
attribute [local go_sem] Oper.semAt_some

theorem eqFaultA (c a d b : Int) (w : World) : (Op.equalIn 10000 24 (.agg #[.int .i64 c, .int .i64 a]) (.agg #[.int .i64 d, .int .i64 b])).run Tryz.prog w = .ok (c == d && a == b) w := by
  have hS : Tryz.prog.underlying 24 = some (.struct (Tryz.prog.fieldsOf 24)) := by kernel_rfl
  rw [show (10000 : Nat) = 9999 + 1 from rfl, run_equalIn_agg w 9999 24 _ _ hS (by kernel_rfl)]
  simp only [Program.fieldsOf, Tryz.underlying24]
  have u3 := Tryz.underlying3
  have a3 := Tryz.isAgg3
  have z3 := Tryz.sizeOf3
  go_simp
  by_cases h0 : c = d <;> by_cases h1 : a = b <;> simp [h0, h1]
theorem rtN_nil : rtN [] = Lib.itoa := rfl
/-- The text that asm.Text tells. -/
def txtF (ms : List Mac) : List UInt8 := if (checkS ms).1 = 0 then textL Lib.itoa ms else []
theorem code_facts {ms : List Mac} (h : (checkS ms).1 = 0) : 0 < ms.length ∧ ms.length ≤ 5000 ∧ (∀ m ∈ ms, isOp m.op = true) ∧ (∀ m ∈ ms, shK m.op = 2 → 0 ≤ m.n ∧ m.n < (ms.length : Int)) ∧ ∀ m ∈ ms, shK m.op = 4 → 0 ≤ m.n := by
  obtain ⟨h1, h2, m, hm, _⟩ := (code_ok_iff ms).1 h
  have hall : ∀ m ∈ ms, isOp m.op = true ∧ numberS (shK m.op) m.n (ms.length : Int) = 0 := fun m hm => by
    obtain ⟨j, hj⟩ := List.mem_iff_getElem?.1 hm
    obtain ⟨a, _, _, _, _, b⟩ := (fault_zero m _).1 (h2 j m hj)
    exact ⟨a, b⟩
  have hl := (List.getElem?_eq_some_iff.1 hm).1
  refine ⟨by omega, h1, fun m hm => (hall m hm).1, fun m hm hk => ?_, fun m hm hk => ?_⟩
  · have := (hall m hm).2
    rw [hk] at this
    unfold numberS at this
    simp at this
    omega
  · have := (hall m hm).2
    rw [hk] at this
    unfold numberS at this
    simp at this
    omega
theorem namer_itoa (n : Int) (hn : I64 n) (w : World) (hp : Pow w) : Namer (.func (.func 34) #[] #[]) n (Lib.itoa n) w :=
  ⟨34, #[], rfl, fun a W => MuLone.run_callFunc_enter Tryz.func34 (by kernel_rfl) rfl a W, fun W hW => Itoa_any n hn W (hp.own hW)⟩
set_option maxRecDepth 100000 in
set_option maxHeartbeats 2000000 in
theorem Text_any (v : Value) (ms : List Mac) (w : World) (hv : MacsAt w w.heap.size v ms) (hok : ∀ m ∈ ms, m.ok) (hT : Tab w) (hP : Pow w) (hW : Wrd w) :
    Calls Tryz.prog 14 #[v] w fun e w' => e = .returned (.tuple #[.string (mkS (txtF ms)), .agg #[.int .i64 (checkS ms).1, .int .i64 (checkS ms).2]]) ∧ Below w.heap.size w w' := by
  have HV := Lib.hid hv
  have Hok := Lib.hid hok
  have HT := Lib.hid hT
  have HP := Lib.hid hP
  have HWd := Lib.hid hW
  obtain ⟨uc, ua, hun⟩ : ∃ uc ua, checkS ms = (uc, ua) := ⟨_, _, rfl⟩
  have Hun := Lib.hid hun
  rw [hun]
  have HX0 : Hid (Blk (w.alloc (.cells #[.int .i64 0, .int .i64 0] 24)) w.heap.size 24 #[.int .i64 0, .int .i64 0]) := Lib.hid (Blk.new w _ _)
  have HB0 : Hid (Below w.heap.size w (w.alloc (.cells #[.int .i64 0, .int .i64 0] 24))) := Lib.hid ((Below.refl _ _).alloc (Nat.le_refl _) _)
  clear hv hok hT hP hW hun
  go_enter Tryz.func14, Tryz.ntmps14
  go_upto_region 1 with fail
  generalize w.alloc (.cells #[.int .i64 0, .int .i64 0] 24) = W0 at *
  have HCk := Lib.hid (Check_any v ms W0 (HV.out.below HB0.out (Nat.le_refl _) |>.more HB0.out.size) (HT.out.own HB0.out))
  go_wp2_with fail
  refine HCk.out.mono ?_
  rintro e W1 ⟨rfl, hb1⟩
  rw [Hun.out]
  have hz := HB0.out.size
  have HB2 : Hid (Below w.heap.size w (W1.alloc (.cells #[.int .i64 uc, .int .i64 ua] 24))) := Lib.hid ((HB0.out.trans (hb1.mono hz)).alloc (Nat.le_trans hz hb1.size) _)
  have HX2 := Lib.hid ((HX0.out.below hb1 HX0.out.lt).alloc (.cells #[.int .i64 uc, .int .i64 ua] 24))
  have HF2 : Hid (Blk (W1.alloc (.cells #[.int .i64 uc, .int .i64 ua] 24)) W1.heap.size 24 #[.int .i64 uc, .int .i64 ua]) := Lib.hid (Blk.new _ _ _)
  clear hb1 hz HCk HB0 HX0
  go_upto_region 2 with fail
  generalize W1.alloc (.cells #[.int .i64 uc, .int .i64 ua] 24) = W2 at *
  generalize W1.heap.size = g4 at *
  have x0 := HF2.out.cell 0
  have x1 := HF2.out.cell 1
  have y0 := HX2.out.cell 0
  have y1 := HX2.out.cell 1
  have hfz := HX2.out.frozen 0
  have hfz1 := HX2.out.frozen 1
  by_cases h0 : uc = 0
  · subst h0
    have hcz := check_zero (ms := ms) (by rw [Hun.out])
    obtain rfl : ua = 0 := by
      rw [Hun.out] at hcz
      injection hcz
    obtain ⟨k1, k2, k3, k4, _⟩ := code_facts (ms := ms) (by rw [Hun.out])
    have HO := Lib.hid (OfText_any v (.func (.func 34) #[] #[]) ms Lib.itoa W2 (HV.out.below HB2.out (Nat.le_refl _) |>.more HB2.out.size) Hok.out k3 k4 (HT.out.own HB2.out) (HP.out.own HB2.out) (HWd.out.own HB2.out)
      (fun m hm _ => namer_itoa m.n (Hok.out m hm).n W2 (HP.out.own HB2.out)) (fun m hm => by have := itoa_len (Hok.out m hm).n; omega) k1 (by omega))
    have HE : Hid (txtF ms = textL Lib.itoa ms) := Lib.hid (by unfold txtF; rw [if_pos (by rw [Hun.out])])
    clear hcz k1 k2 k3 k4 y0 y1 hfz hfz1
    go_wp2_with fail
    refine HO.out.mono ?_
    rintro e W3 ⟨rfl, hb3⟩
    have HX3 := Lib.hid (HX2.out.below hb3 HX2.out.lt)
    have HB3 := Lib.hid (HB2.out.trans (hb3.mono HB2.out.size))
    have y0 := HX3.out.cell 0
    have y1 := HX3.out.cell 1
    have hfz := HX3.out.frozen 0
    have hfz1 := HX3.out.frozen 1
    clear hb3 HO x0 x1
    go_wp2_with fail
    refine end_tmp_cell rfl rfl (HX3.out.set2 (.int .i64 0) (.int .i64 0)) Tryz.underlying24 rfl (by kernel_rfl) rfl ⟨by rw [HE.out]; rfl, ?_⟩
    exact (HB3.out.setCell (Nat.le_refl _) _).setCell (Nat.le_refl _) _
  · have hub : (uc == 0) = false := by simpa using h0
    have HE : Hid (txtF ms = []) := Lib.hid (by unfold txtF; rw [if_neg (by rw [Hun.out]; exact h0)])
    clear h0
    go_wp2_with fail
    go_region
    all_goals
      go_wp2_with fail
      refine end_tmp_cell rfl rfl (HX2.out.set2 (.int .i64 uc) (.int .i64 ua)) Tryz.underlying24 rfl (by kernel_rfl) rfl ⟨by rw [HE.out]; rfl, ?_⟩
      exact below_drew0 ((HB2.out.setCell (Nat.le_refl _) _).setCell (Nat.le_refl _) _)
end Go.Proofs.YtdldochhondifaaGreatDoor
