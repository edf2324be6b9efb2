/-
  Contract of the reference's SameMacs.
  Conditions: both slices read as instructions.
-/
import Derived.Test.YtliampeaecgagaaDoorRdE
import Derived.Deep.QuietTactic
import Derived.BigQuiet
import Derived.Laws.StructEq
namespace Go.Proofs.YtliampeaecgagaaDoor
open Go.RowKit

theorem eqMac (x0 x1 x2 x3 x4 y0 y1 y2 y3 y4 : Int) (w : World) :
    (Op.equalIn 10000 36 (.agg #[.int .i64 x0, .int .i64 x1, .int .i64 x2, .int .i64 x3, .int .i64 x4]) (.agg #[.int .i64 y0, .int .i64 y1, .int .i64 y2, .int .i64 y3, .int .i64 y4])).run Tryd.prog w = .ok (x0 == y0 && (x1 == y1 && (x2 == y2 && (x3 == y3 && x4 == y4)))) w := by
  have hS : Tryd.prog.underlying 36 = some (.struct (Tryd.prog.fieldsOf 36)) := by kernel_rfl
  rw [show (10000 : Nat) = 9999 + 1 from rfl, run_equalIn_agg w 9999 36 _ _ hS (by kernel_rfl)]
  simp only [Program.fieldsOf, Tryd.underlying36]
  have u3 := Tryd.underlying3
  have a3 := Tryd.isAgg3
  have z3 := Tryd.sizeOf3
  go_simp
  by_cases h0 : x0 = y0 <;> by_cases h1 : x1 = y1 <;> by_cases h2 : x2 = y2 <;> by_cases h3 : x3 = y3 <;> by_cases h4 : x4 = y4 <;> simp [h0, h1, h2, h3, h4]
set_option maxRecDepth 100000 in
set_option maxHeartbeats 1000000 in
theorem SameMacs_quiet (v1 v2 : Value) (xs ys : List Mac) (w : World) (h1 : MacsAt w w.heap.size v1 xs) (h2 : MacsAt w w.heap.size v2 ys) :
    Calls Tryd.prog 19 #[v1, v2] w fun e w' => e = .returned (.bool (decide (xs = ys))) ∧ ∃ n, w' = w.drewN n := by
  obtain ⟨A, c, rfl, k1, k1', k3⟩ := h1
  obtain ⟨B, d, rfl, l1, l1', l3⟩ := h2
  by_cases hne : xs.length = ys.length
  · have hb : ((xs.length : Int) != (ys.length : Int)) = false := by simp [hne]
    have HX := Lib.hid k3
    have HY := Lib.hid l3
    obtain ⟨len, hlen⟩ : ∃ len, xs.length = len := ⟨_, rfl⟩
    have hlen' : ys.length = len := by omega
    have HN := Lib.hid (And.intro hlen hlen')
    rw [hlen] at k1 k1' hb ⊢
    rw [hlen'] at l1 hb ⊢
    clear k3 l3 hne hlen hlen' l1'
    go_enter Tryd.func19, Tryd.ntmps19
    go_wp2_with fail
    go_loopw [5] (fun i wr => ∃ k n : Nat, k ≤ len ∧ i = .int .i64 k ∧ Hid (∀ j : Nat, j < k → xs[j]? = ys[j]?) ∧ wr = w.drewN n) (fun i _ => len - (intOf i).toNat)
    case atStart => exact ⟨0, 0, Nat.zero_le _, rfl, Lib.hid (fun j h => absurd h (Nat.not_lt_zero j)), rfl⟩
    case round =>
      obtain ⟨k, n, hk, rfl, HF, rfl⟩ := hrel
      by_cases hlt : k < len
      · obtain ⟨bx, ox, rfl, hbx, hcx⟩ := HX.out (by rw [HN.out.1]; omega)
        obtain ⟨by', oy, rfl, hby, hcy⟩ := HY.out (by rw [HN.out.2]; omega)
        obtain ⟨⟨x0, x1, x2, x3, x4⟩, hx⟩ : ∃ x, xs[k]? = some x := ⟨xs[k]'(by rw [HN.out.1]; exact hlt), List.getElem?_eq_getElem _⟩
        obtain ⟨⟨y0, y1, y2, y3, y4⟩, hy⟩ : ∃ y, ys[k]? = some y := ⟨ys[k]'(by rw [HN.out.2]; exact hlt), List.getElem?_eq_getElem _⟩
        obtain ⟨cx0, cx1, cx2, cx3, cx4⟩ := hcx k _ hx
        obtain ⟨cy0, cy1, cy2, cy3, cy4⟩ := hcy k _ hy
        have hk0 : (0 : Int) ≤ (k : Int) := Int.natCast_nonneg k
        have hk1 : (k : Int) < (len : Int) := by omega
        have Hxy := Lib.hid (And.intro hx hy)
        clear hx hy hcx hcy
        have heq := fun W => eqMac x0 x1 x2 x3 x4 y0 y1 y2 y3 y4 W
        by_cases he : (⟨x0, x1, x2, x3, x4⟩ : Mac) = ⟨y0, y1, y2, y3, y4⟩
        · have hb2 : (x0 == y0 && (x1 == y1 && (x2 == y2 && (x3 == y3 && x4 == y4)))) = true := by simp only [Mac.mk.injEq] at he; simp [he]
          rw [hb2] at heq
          have He := Lib.hid he
          clear he hb2
          go_wp2_with fail
          go_quiet (fail)
          go_wp2_with fail
          go_roundw
          case rel =>
            refine ⟨k + 1, _, by omega, by go_num, Lib.hid fun j hj => ?_, rfl⟩
            rcases Nat.lt_or_ge j k with h | h
            · exact HF.out j h
            · obtain rfl : j = k := by omega
              rw [Hxy.out.1, Hxy.out.2, He.out]
          case measure => simp [intOf]; omega
        · have hb2 : (x0 == y0 && (x1 == y1 && (x2 == y2 && (x3 == y3 && x4 == y4)))) = false := by
            rw [Bool.eq_false_iff]
            intro h
            apply he
            simp only [Bool.and_eq_true, beq_iff_eq] at h
            simp only [Mac.mk.injEq]
            exact ⟨h.1, h.2.1, h.2.2.1, h.2.2.2.1, h.2.2.2.2⟩
          rw [hb2] at heq
          have He := Lib.hid he
          clear he hb2
          go_wp2_with fail
          go_quiet (fail)
          go_wp2_with fail
          go_ret
          exact ⟨ret_bool (by symm; apply decide_eq_false; intro h; apply He.out; have := Hxy.out.1; rw [h, Hxy.out.2] at this; cases this; rfl), _, World.drewN_drewN ..⟩
      · obtain rfl : k = len := by omega
        go_wp2_with fail
        go_ret
        exact ⟨ret_bool (by symm; apply decide_eq_true; apply List.ext_getElem?; intro j; rcases Nat.lt_or_ge j k with h | h; exact HF.out j h; rw [List.getElem?_eq_none (by rw [HN.out.1]; exact h), List.getElem?_eq_none (by rw [HN.out.2]; exact h)]), _, rfl⟩
  · have hb : ((xs.length : Int) != (ys.length : Int)) = true := by simp; omega
    go_enter Tryd.func19, Tryd.ntmps19
    go_wp2_with fail
    go_ret
    exact ⟨ret_bool (by symm; apply decide_eq_false; intro h; apply hne; rw [h]), 0, rfl⟩
theorem SameMacs_any (v1 v2 : Value) (xs ys : List Mac) (w : World) (h1 : MacsAt w w.heap.size v1 xs) (h2 : MacsAt w w.heap.size v2 ys) :
    Calls Tryd.prog 19 #[v1, v2] w fun e w' => e = .returned (.bool (decide (xs = ys))) ∧ Below w.heap.size w w' :=
  (SameMacs_quiet v1 v2 xs ys w h1 h2).mono fun _ _ ⟨he, n, hw⟩ => ⟨he, by rw [hw]; exact below_drewN (Below.refl _ _) n⟩
end Go.Proofs.YtliampeaecgagaaDoor
