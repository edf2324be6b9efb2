/-
  Contract of bytes.registers: the registers' places, those that the shape has.
  Conditions: none.
-/
import Derived.Test.YtliampeaecgagaaDoorByC
import Derived.Test.YtliampeaecgagaaDoorKitC
import Derived.Deep.QuietTactic
import Derived.BigQuiet
namespace Go.Proofs.YtliampeaecgagaaDoor
open Go.RowKit

theorem infoPtr : (Tryd.prog.info? 113).map (fun i => (i.zero, i.size, i.bytes)) = some (some (.pointer none), 1, 8) := by kernel_rfl
/-- The places of the registers that a shape has. -/
def regP (d a b : Bool) (g : Nat) (k : Nat) : List Value :=
  (if d && decide (0 < k) then [.pointer (some ⟨g, 1, none⟩)] else []) ++ (if a && decide (1 < k) then [.pointer (some ⟨g, 2, none⟩)] else []) ++ (if b && decide (2 < k) then [.pointer (some ⟨g, 3, none⟩)] else [])
theorem regP_len (d a b : Bool) (g k : Nat) : (regP d a b g k).length ≤ 3 := by unfold regP; split <;> split <;> split <;> simp
theorem regP_zero (d a b : Bool) (g : Nat) : regP d a b g 0 = [] := by unfold regP; simp
theorem regP_one (d a b : Bool) (g : Nat) : regP d a b g 1 = if d then [.pointer (some ⟨g, 1, none⟩)] else [] := by unfold regP; cases d <;> simp
theorem regP_two (d a b : Bool) (g : Nat) : regP d a b g 2 = regP d a b g 1 ++ if a then [.pointer (some ⟨g, 2, none⟩)] else [] := by unfold regP; cases d <;> cases a <;> simp
theorem regP_three (d a b : Bool) (g : Nat) : regP d a b g 3 = regP d a b g 2 ++ if b then [.pointer (some ⟨g, 3, none⟩)] else [] := by unfold regP; cases d <;> cases a <;> cases b <;> simp
def OwnP (w : World) (base : Nat) (v : Value) (xs : List Value) : Prop := w.ownsRow base 113 1 v xs.length xs

set_option maxRecDepth 100000 in
set_option maxHeartbeats 1000000 in
theorem registers_any (d a b : Bool) (k : Int) (g : Nat) (w : World) :
    Calls Tryd.prog 64 #[.agg #[.bool d, .bool a, .bool b, .int .i64 k], .pointer (some ⟨g, 0, none⟩)] w fun e w' => ∃ v, e = .returned v ∧ OwnP w' w.heap.size v (regP d a b g 3) ∧ Below w.heap.size w w' := by
  obtain ⟨i0, hi, hz0, hz1, hz2⟩ := info_parts infoPtr
  have x0 : ∀ w, (Instr.index 150 (.agg #[.bool d, .pointer (some ⟨g, 1, none⟩), .bool a, .pointer (some ⟨g, 2, none⟩), .bool b, .pointer (some ⟨g, 3, none⟩)]) (.int .i64 0)).run Tryd.prog w = .ok (.agg #[.bool d, .pointer (some ⟨g, 1, none⟩)]) w := fun _ => by kernel_rfl
  have x1 : ∀ w, (Instr.index 150 (.agg #[.bool d, .pointer (some ⟨g, 1, none⟩), .bool a, .pointer (some ⟨g, 2, none⟩), .bool b, .pointer (some ⟨g, 3, none⟩)]) (.int .i64 1)).run Tryd.prog w = .ok (.agg #[.bool a, .pointer (some ⟨g, 2, none⟩)]) w := fun _ => by kernel_rfl
  have x2 : ∀ w, (Instr.index 150 (.agg #[.bool d, .pointer (some ⟨g, 1, none⟩), .bool a, .pointer (some ⟨g, 2, none⟩), .bool b, .pointer (some ⟨g, 3, none⟩)]) (.int .i64 2)).run Tryd.prog w = .ok (.agg #[.bool b, .pointer (some ⟨g, 3, none⟩)]) w := fun _ => by kernel_rfl
  have HP : Hid (∀ v (w' : World), OwnP w' w.heap.size v (regP d a b g 3) → Below w.heap.size w w' → ∃ v', Ending.returned v = .returned v' ∧ OwnP w' w.heap.size v' (regP d a b g 3) ∧ Below w.heap.size w w') :=
    Lib.hid fun v w' h1 h2 => ⟨v, rfl, h1, h2⟩
  go_enter Tryd.func64, Tryd.ntmps64
  go_wp2_with fail
  go_quiet (fail)
  go_wp2_with fail
  have hb0 : Below w.heap.size w ((w.alloc (.cells #[.bool d, .bool a, .bool b, .int .i64 k] 107)).drewN nq) := below_drewN ((Below.refl _ _).alloc (Nat.le_refl _) _) _
  generalize (w.alloc (.cells #[.bool d, .bool a, .bool b, .int .i64 k] 107)).drewN nq = W at *
  have HB0 := Lib.hid hb0
  clear hb0
  go_loopw [5, 27] (fun v i wr => ∃ k : Nat, k ≤ 3 ∧ i = .int .i64 k ∧ Hid (Below w.heap.size w wr) ∧ Hid (OwnP wr w.heap.size v (regP d a b g k))) (fun _ i _ => 3 - (intOf i).toNat)
  case atStart => exact ⟨0, by omega, rfl, HB0, Lib.hid (by rw [regP_zero]; exact World.ownsRow_nil _ _ _ _)⟩
  case round =>
    obtain ⟨k, hk, rfl, HB, HO⟩ := hrel
    have hlen := regP_len d a b g k
    have hsz := HB.out.size
    rcases (by omega : k = 0 ∨ k = 1 ∨ k = 2 ∨ k = 3) with rfl | rfl | rfl | rfl
    case inr.inr.inr =>
      go_wp2_with fail
      go_ret
      exact HP.out _ _ HO.out HB.out
    case inl =>
      cases d
      · go_wp2_with fail
        go_roundw
        case rel => exact ⟨1, by omega, by go_num, Lib.hid (HB.out.alloc hsz _), Lib.hid (by rw [regP_one]; simp only [Bool.false_eq_true, if_false]; rw [regP_zero] at HO; exact HO.out.alloc _)⟩
        case measure => simp [intOf]
      · go_wp2_with (at_builtin; refine app_one rfl _ _ 110 113 rfl (.pointer none) 1 8 Tryd.underlying110 infoPtr rfl (by decide) (by decide) w.heap.size _ _ _ rfl (HO.out.alloc _) _ [.pointer (some ⟨g, 1, none⟩)] rfl rfl (fun x hx => by simp at hx; subst hx; rfl) (by simp) (by omega) (by simp; omega) ?_; intro v' w3 HA')
        go_roundw
        case rel =>
          refine ⟨1, by omega, by go_num, Lib.hid ((HB.out.alloc hsz _).trans HA'.out.below), Lib.hid ?_⟩
          have h := HA'.out.own
          unfold OwnP
          rw [regP_one]
          rw [regP_zero] at h
          exact h
        case measure => simp [intOf]
    case inr.inl =>
      cases a
      · go_wp2_with fail
        go_roundw
        case rel => exact ⟨2, by omega, by go_num, Lib.hid (HB.out.alloc hsz _), Lib.hid (by rw [regP_two]; simp only [Bool.false_eq_true, if_false, List.append_nil]; exact HO.out.alloc _)⟩
        case measure => simp [intOf]
      · go_wp2_with (at_builtin; refine app_one rfl _ _ 110 113 rfl (.pointer none) 1 8 Tryd.underlying110 infoPtr rfl (by decide) (by decide) w.heap.size _ _ _ rfl (HO.out.alloc _) _ [.pointer (some ⟨g, 2, none⟩)] rfl rfl (fun x hx => by simp at hx; subst hx; rfl) (by simp) (by omega) (by simp; omega) ?_; intro v' w3 HA')
        go_roundw
        case rel =>
          refine ⟨2, by omega, by go_num, Lib.hid ((HB.out.alloc hsz _).trans HA'.out.below), Lib.hid ?_⟩
          have h := HA'.out.own
          unfold OwnP
          rw [regP_two]
          rw [List.length_append]
          exact h
        case measure => simp [intOf]
    case inr.inr.inl =>
      cases b
      · go_wp2_with fail
        go_roundw
        case rel => exact ⟨3, by omega, by go_num, Lib.hid (HB.out.alloc hsz _), Lib.hid (by rw [regP_three]; simp only [Bool.false_eq_true, if_false, List.append_nil]; exact HO.out.alloc _)⟩
        case measure => simp [intOf]
      · go_wp2_with (at_builtin; refine app_one rfl _ _ 110 113 rfl (.pointer none) 1 8 Tryd.underlying110 infoPtr rfl (by decide) (by decide) w.heap.size _ _ _ rfl (HO.out.alloc _) _ [.pointer (some ⟨g, 3, none⟩)] rfl rfl (fun x hx => by simp at hx; subst hx; rfl) (by simp) (by omega) (by simp; omega) ?_; intro v' w3 HA')
        go_roundw
        case rel =>
          refine ⟨3, by omega, by go_num, Lib.hid ((HB.out.alloc hsz _).trans HA'.out.below), Lib.hid ?_⟩
          have h := HA'.out.own
          unfold OwnP
          rw [regP_three]
          rw [List.length_append]
          exact h
        case measure => simp [intOf]
end Go.Proofs.YtliampeaecgagaaDoor
