/-
  core.Shapes; code.first of three closures; the closures of the checker's ins.
  Conditions: as the theorems say.
-/
import Derived.Test.YtgnkkgbjcodihaaDoorUnC
namespace Go.Proofs.YtgnkkgbjcodihaaDoor
open Go.RowKit

theorem Blk.set3 {w : World} {g : Nat} {t : TypeId} {x0 x1 x2 : Value} (h : Blk w g t #[x0, x1, x2]) (u v x : Value) : Blk (((w.setCell ⟨g, 0, none⟩ u).setCell ⟨g, 1, none⟩ v).setCell ⟨g, 2, none⟩ x) g t #[u, v, x] := ((h.set_ 0 u).set_ 1 v).set_ 2 x
def shapeV (op : Int) : Value := .agg #[.bool (hasD op), .bool (hasA op), .bool (hasB op)]
theorem shape_of {op : Int} {d a b : Bool} (h : hasD op = d ∧ hasA op = a ∧ hasB op = b) : Ending.returned (.agg #[.bool d, .bool a, .bool b]) = .returned (shapeV op) := by
  unfold shapeV
  rw [h.1, h.2.1, h.2.2]
theorem has_one {op : Int} (h : op = 1 ∨ op = 16 ∨ op = 17 ∨ op = 18) : hasD op = true ∧ hasA op = true ∧ hasB op = false := by
  rcases h with rfl | rfl | rfl | rfl <;> decide
theorem has_two {op : Int} (h : 2 ≤ op ∧ op ≤ 15) : hasD op = true ∧ hasA op = true ∧ hasB op = true := by
  unfold hasD hasA hasB
  refine ⟨decide_eq_true ?_, decide_eq_true ?_, decide_eq_true ?_⟩ <;> omega
theorem has_store : hasD 19 = false ∧ hasA 19 = true ∧ hasB 19 = true := by decide
theorem has_call : hasD 20 = true ∧ hasA 20 = false ∧ hasB 20 = false := by decide
theorem has_read : hasD 21 = true ∧ hasA 21 = false ∧ hasB 21 = false := by decide
theorem has_print : hasD 22 = false ∧ hasA 22 = true ∧ hasB 22 = false := by decide
set_option maxRecDepth 100000 in
set_option maxHeartbeats 1000000 in
theorem Shapes_any (op : Int) (w : World) (h : 1 ≤ op ∧ op ≤ 22) : Calls Tryd.prog 55 #[.int .i64 op] w fun e w' => e = .returned (shapeV op) ∧ Below w.heap.size w w' := by
  rcases (by omega : (op = 1 ∨ op = 16 ∨ op = 17 ∨ op = 18) ∨ (2 ≤ op ∧ op ≤ 15) ∨ op = 19 ∨ op = 20 ∨ op = 21 ∨ op = 22) with h1 | h1 | rfl | rfl | rfl | rfl
  · have HE := Lib.hid (has_one h1)
    rcases h1 with rfl | rfl | rfl | rfl
    all_goals
      go_enter Tryd.func55, Tryd.ntmps55
      go_wp2_with fail
      exact end_cell rfl rfl (Blk.new w _ _) Tryd.underlying96 rfl (by kernel_rfl) rfl ⟨shape_of HE.out, (Below.refl _ _).alloc (Nat.le_refl _) _⟩
  · have HE := Lib.hid (has_two h1)
    have b1 : (op == 1) = false := by simp; omega
    have b2 : (op == 16) = false := by simp; omega
    have b3 : (op == 17) = false := by simp; omega
    have b4 : (op == 18) = false := by simp; omega
    obtain ⟨h2, h3⟩ := h1
    clear h
    go_enter Tryd.func55, Tryd.ntmps55
    go_wp2_with fail
    exact end_cell rfl rfl (Blk.new w _ _) Tryd.underlying96 rfl (by kernel_rfl) rfl ⟨shape_of HE.out, (Below.refl _ _).alloc (Nat.le_refl _) _⟩
  · go_enter Tryd.func55, Tryd.ntmps55
    go_wp2_with fail
    exact end_cell rfl rfl (Blk.new w _ _) Tryd.underlying96 rfl (by kernel_rfl) rfl ⟨shape_of has_store, (Below.refl _ _).alloc (Nat.le_refl _) _⟩
  · go_enter Tryd.func55, Tryd.ntmps55
    go_wp2_with fail
    exact end_cell rfl rfl (Blk.new w _ _) Tryd.underlying96 rfl (by kernel_rfl) rfl ⟨shape_of has_call, (Below.refl _ _).alloc (Nat.le_refl _) _⟩
  · go_enter Tryd.func55, Tryd.ntmps55
    go_wp2_with fail
    exact end_cell rfl rfl (Blk.new w _ _) Tryd.underlying96 rfl (by kernel_rfl) rfl ⟨shape_of has_read, (Below.refl _ _).alloc (Nat.le_refl _) _⟩
  · go_enter Tryd.func55, Tryd.ntmps55
    go_wp2_with fail
    exact end_cell rfl rfl (Blk.new w _ _) Tryd.underlying96 rfl (by kernel_rfl) rfl ⟨shape_of has_print, (Below.refl _ _).alloc (Nat.le_refl _) _⟩
/-- The first fault of three that are asked one behind the other. -/
def first3 (a b c : Int) : Int := if a ≠ 0 then a else if b ≠ 0 then b else c
set_option maxRecDepth 100000 in
set_option maxHeartbeats 1000000 in
theorem first_any (F1 F2 F3 : FuncId) (c1 c2 c3 : Array Value) (e1 e2 e3 : Int) (g : Nat) (w : World)
    (k0 : w.cell? ⟨g, 0, none⟩ = some (.func (.func F1) #[] c1)) (k1 : w.cell? ⟨g, 1, none⟩ = some (.func (.func F2) #[] c2)) (k2 : w.cell? ⟨g, 2, none⟩ = some (.func (.func F3) #[] c3)) (hg : g < w.heap.size)
    (h1 : ∀ (a : Array Value) (W : World), (callFunc F1 a).run Tryd.prog W = .ok (.enter F1 a) W) (h2 : ∀ (a : Array Value) (W : World), (callFunc F2 a).run Tryd.prog W = .ok (.enter F2 a) W) (h3 : ∀ (a : Array Value) (W : World), (callFunc F3 a).run Tryd.prog W = .ok (.enter F3 a) W)
    (H1 : ∀ W : World, Below w.heap.size w W → Calls Tryd.prog F1 c1 W fun e W' => e = .returned (.int .i64 e1) ∧ Below W.heap.size W W')
    (H2 : ∀ W : World, Below w.heap.size w W → Calls Tryd.prog F2 c2 W fun e W' => e = .returned (.int .i64 e2) ∧ Below W.heap.size W W')
    (H3 : ∀ W : World, Below w.heap.size w W → Calls Tryd.prog F3 c3 W fun e W' => e = .returned (.int .i64 e3) ∧ Below W.heap.size W W') :
    Calls Tryd.prog 95 #[.slice (some ⟨g, 0, none⟩) 3 3] w fun e w' => e = .returned (.int .i64 (first3 e1 e2 e3)) ∧ Below w.heap.size w w' := by
  have HH1 := Lib.hid H1
  have HH2 := Lib.hid H2
  have HH3 := Lib.hid H3
  clear H1 H2 H3
  go_enter Tryd.func95, Tryd.ntmps95
  go_wp2_with fail
  go_loopw [8] (fun i wr => (i = .int .i64 0 ∨ (i = .int .i64 1 ∧ Hid (e1 = 0)) ∨ (i = .int .i64 2 ∧ Hid (e1 = 0 ∧ e2 = 0)) ∨ (i = .int .i64 3 ∧ Hid (e1 = 0 ∧ e2 = 0 ∧ e3 = 0))) ∧ Hid (Below w.heap.size w wr)) (fun i _ => 3 - (intOf i).toNat)
  case atStart => exact ⟨.inl rfl, Lib.hid (Below.refl _ _)⟩
  case round =>
    obtain ⟨hi, HB⟩ := hrel
    have k0 := (bcell HB.out hg).trans k0
    have k1 := (bcell HB.out hg).trans k1
    have k2 := (bcell HB.out hg).trans k2
    rcases hi with rfl | ⟨rfl, Ha⟩ | ⟨rfl, Ha⟩ | ⟨rfl, Ha⟩
    · go_wp2_with fail
      refine (HH1.out _ HB.out).mono ?_
      rintro e w1 ⟨rfl, hb1⟩
      have HB1 := Lib.hid (HB.out.trans (hb1.mono HB.out.size))
      clear hb1
      by_cases he : e1 = 0
      · have He := Lib.hid he
        subst he
        go_wp2_with fail
        go_roundw
        case rel => exact ⟨.inr (.inl ⟨by go_num, He⟩), HB1⟩
        case measure => simp [intOf]
      · have HE : Hid (first3 e1 e2 e3 = e1) := Lib.hid (by unfold first3; rw [if_pos he])
        have hb : (e1 != 0) = true := by simpa using he
        clear he
        go_wp2_with fail
        go_ret
        exact ⟨ret_int HE.out.symm, HB1.out⟩
    · go_wp2_with fail
      refine (HH2.out _ HB.out).mono ?_
      rintro e w1 ⟨rfl, hb1⟩
      have HB1 := Lib.hid (HB.out.trans (hb1.mono HB.out.size))
      clear hb1
      by_cases he : e2 = 0
      · have Hn : Hid (e1 = 0 ∧ e2 = 0) := Lib.hid ⟨Ha.out, he⟩
        subst he
        go_wp2_with fail
        go_roundw
        case rel => exact ⟨.inr (.inr (.inl ⟨by go_num, Hn⟩)), HB1⟩
        case measure => simp [intOf]
      · have HE : Hid (first3 e1 e2 e3 = e2) := Lib.hid (by unfold first3; rw [if_neg (by simpa using Ha.out), if_pos he])
        have hb : (e2 != 0) = true := by simpa using he
        clear he
        go_wp2_with fail
        go_ret
        exact ⟨ret_int HE.out.symm, HB1.out⟩
    · go_wp2_with fail
      refine (HH3.out _ HB.out).mono ?_
      rintro e w1 ⟨rfl, hb1⟩
      have HB1 := Lib.hid (HB.out.trans (hb1.mono HB.out.size))
      clear hb1
      by_cases he : e3 = 0
      · have Hn : Hid (e1 = 0 ∧ e2 = 0 ∧ e3 = 0) := Lib.hid ⟨Ha.out.1, Ha.out.2, he⟩
        subst he
        go_wp2_with fail
        go_roundw
        case rel => exact ⟨.inr (.inr (.inr ⟨by go_num, Hn⟩)), HB1⟩
        case measure => simp [intOf]
      · have HE : Hid (first3 e1 e2 e3 = e3) := Lib.hid (by unfold first3; rw [if_neg (by simpa using Ha.out.1), if_neg (by simpa using Ha.out.2)])
        have hb : (e3 != 0) = true := by simpa using he
        clear he
        go_wp2_with fail
        go_ret
        exact ⟨ret_int HE.out.symm, HB1.out⟩
    · have HE : Hid (first3 e1 e2 e3 = 0) := Lib.hid (by unfold first3; rw [if_neg (by simpa using Ha.out.1), if_neg (by simpa using Ha.out.2.1)]; exact Ha.out.2.2)
      go_wp2_with fail
      go_ret
      exact ⟨ret_int HE.out.symm, HB.out⟩
end Go.Proofs.YtgnkkgbjcodihaaDoor
