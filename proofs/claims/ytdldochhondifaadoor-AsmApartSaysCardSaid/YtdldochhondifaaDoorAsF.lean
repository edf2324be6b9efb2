/-
  The reference's words, orders, lines and text.
  Conditions: the code's instructions are known ones; routines are named by a list, or by their numbers where it is empty.
-/
import Derived.Test.YtdldochhondifaaDoorAsE
import Derived.Test.YtdldochhondifaaDoorMacE
import Derived.Deep.DeepCutAuto
import Derived.BigQuiet
import Derived.BigRegion
namespace Go.Proofs.YtdldochhondifaaDoor
open Go.RowKit
attribute [local go_sem] Oper.semAt_some

theorem word_val (k : Nat) (h : (1 ≤ k ∧ k ≤ 18) ∨ (33 ≤ k ∧ k ≤ 47)) :
    ([Value.string { data := #[63] }, Value.string { data := #[115, 101, 116] }, Value.string { data := #[109, 111, 118, 101] }, Value.string { data := #[110, 101, 103] }, Value.string { data := #[110, 111, 116] }, Value.string { data := #[97, 100, 100] }, Value.string { data := #[115, 117, 98] }, Value.string { data := #[109, 117, 108] }, Value.string { data := #[100, 105, 118] }, Value.string { data := #[114, 101, 109] }, Value.string { data := #[97, 110, 100] }, Value.string { data := #[111, 114] }, Value.string { data := #[120, 111, 114] }, Value.string { data := #[115, 104, 108] }, Value.string { data := #[115, 104, 114] }, Value.string { data := #[101, 113] }, Value.string { data := #[110, 101] }, Value.string { data := #[108, 116] }, Value.string { data := #[108, 101] }, Value.string { data := #[63] }, Value.string { data := #[63] }, Value.string { data := #[63] }, Value.string { data := #[63] }, Value.string { data := #[63] }, Value.string { data := #[63] }, Value.string { data := #[63] }, Value.string { data := #[63] }, Value.string { data := #[63] }, Value.string { data := #[63] }, Value.string { data := #[63] }, Value.string { data := #[63] }, Value.string { data := #[63] }, Value.string { data := #[63] }, Value.string { data := #[108, 111, 97, 100] }, Value.string { data := #[115, 116, 111, 114, 101] }, Value.string { data := #[103, 101, 116] }, Value.string { data := #[112, 117, 116] }, Value.string { data := #[106, 117, 109, 112] }, Value.string { data := #[105, 102] }, Value.string { data := #[105, 102, 110, 111, 116] }, Value.string { data := #[105, 102, 101, 113] }, Value.string { data := #[105, 102, 110, 101] }, Value.string { data := #[105, 102, 108, 116] }, Value.string { data := #[105, 102, 108, 101] }, Value.string { data := #[99, 97, 108, 108] }, Value.string { data := #[114, 101, 116, 117, 114, 110] }, Value.string { data := #[114, 101, 97, 100] }, Value.string { data := #[112, 114, 105, 110, 116] }] : List Value)[k]? = some (.string (mkS (wordTab.getD k []))) := by
  obtain rfl | rfl | rfl | rfl | rfl | rfl | rfl | rfl | rfl | rfl | rfl | rfl | rfl | rfl | rfl | rfl | rfl | rfl | rfl | rfl | rfl | rfl | rfl | rfl | rfl | rfl | rfl | rfl | rfl | rfl | rfl | rfl | rfl :
    k = 1 ∨ k = 2 ∨ k = 3 ∨ k = 4 ∨ k = 5 ∨ k = 6 ∨ k = 7 ∨ k = 8 ∨ k = 9 ∨ k = 10 ∨ k = 11 ∨ k = 12 ∨ k = 13 ∨ k = 14 ∨ k = 15 ∨ k = 16 ∨ k = 17 ∨ k = 18 ∨ k = 33 ∨ k = 34 ∨ k = 35 ∨ k = 36 ∨ k = 37 ∨ k = 38 ∨ k = 39 ∨ k = 40 ∨ k = 41 ∨ k = 42 ∨ k = 43 ∨ k = 44 ∨ k = 45 ∨ k = 46 ∨ k = 47 := by omega
  all_goals rfl
set_option maxRecDepth 100000 in
set_option maxHeartbeats 1000000 in
theorem asmWord_any (op : Int) (h : isOp op = true) (w : World) :
    Calls Tryd.prog 47 #[.int .i64 op] w fun e w' => e = .returned (.string (mkS (wordL op))) ∧ Below w.heap.size w w' := by
  obtain ⟨h1, h2⟩ := (isOp_iff op).1 h
  have hT := word_val (plainI op).toNat (by rcases plain_range h with h | h <;> omega)
  by_cases hp : 19 ≤ op ∧ op ≤ 32
  · have e : plainI op = op - 14 := by unfold plainI; rw [if_pos hp]
    have HE : Hid (wordL op = wordTab.getD (op - 14).toNat []) := Lib.hid (by unfold wordL; rw [e])
    rw [e] at hT
    obtain ⟨h3, h4⟩ := hp
    clear h e
    go_enter Tryd.func47, Tryd.ntmps47
    go_wp2
    go_ret
    exact ⟨ret_str (by rw [HE.out, List.getD_eq_getElem?_getD]), (Below.refl _ _).alloc (Nat.le_refl _) _⟩
  · have e : plainI op = op := by unfold plainI; rw [if_neg hp]
    have HE : Hid (wordL op = wordTab.getD op.toNat []) := Lib.hid (by unfold wordL; rw [e])
    rw [e] at hT
    rcases (by omega : op < 19 ∨ 32 < op) with h3 | h3
    all_goals
      clear hp h e
      go_enter Tryd.func47, Tryd.ntmps47
      go_wp2
      go_ret
      exact ⟨ret_str (by rw [HE.out, List.getD_eq_getElem?_getD]), (Below.refl _ _).alloc (Nat.le_refl _) _⟩
set_option maxRecDepth 100000 in
theorem asmOrder_any (op : Int) (w : World) :
    Calls Tryd.prog 48 #[.int .i64 op] w fun e w' => e = .returned (.string (mkS (ordL op))) ∧ Below w.heap.size w w' := by
  by_cases h : op = 34
  · subst h
    go_enter Tryd.func48, Tryd.ntmps48
    go_wp2_with fail
    go_ret
    exact ⟨rfl, Below.refl _ _⟩
  · have HE : Hid (fldS op = mkS (ordL op)) := Lib.hid (by unfold ordL; rw [if_neg h]; rfl)
    have HF := Lib.hid (Fields_any op w)
    go_enter Tryd.func48, Tryd.ntmps48
    go_wp2_with fail
    refine HF.out.mono ?_
    rintro e w' ⟨rfl, hb⟩
    go_wp2_with fail
    go_ret
    exact ⟨ret_str HE.out, hb⟩
end Go.Proofs.YtdldochhondifaaDoor
