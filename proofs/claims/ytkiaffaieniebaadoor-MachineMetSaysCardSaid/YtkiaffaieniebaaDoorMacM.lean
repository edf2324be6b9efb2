/-
  Several texts in one (MacK MacL MacM): what each proves stands at its theorems.
  Conditions: as the theorems say.
-/
import Derived.Test.YtkiaffaieniebaaDoorMacJ
namespace Go.Proofs.YtkiaffaieniebaaDoor
open Go.RowKit

theorem fld_ok (op : Int) : (fldS op).size ≤ 9223372036854775807 := by have := fld_size op; omega
end Go.Proofs.YtkiaffaieniebaaDoor
namespace Go.Proofs.YtkiaffaieniebaaDoor
open Go.RowKit
end Go.Proofs.YtkiaffaieniebaaDoor
namespace Go.Proofs.YtkiaffaieniebaaDoor
open Go.RowKit

set_option maxRecDepth 100000 in
set_option maxHeartbeats 1000000 in
theorem Ints_any (v1 v2 : Value) (xs ys : List Int) (w : World) (h1 : IntsAt w w.heap.size v1 xs) (h2 : IntsAt w w.heap.size v2 ys) :
    Calls Tryd.prog 24 #[v1, v2] w fun e w' => e = .returned (.bool (decide (xs = ys))) ∧ Below w.heap.size w w' := by
  obtain ⟨A, c, rfl, k1, k2, k3⟩ := h1
  obtain ⟨B, d, rfl, l1, l2, l3⟩ := h2
  by_cases hne : xs.length = ys.length
  · have hb : ((xs.length : Int) != (ys.length : Int)) = false := by simp [hne]
    have HX := Lib.hid k3
    have HY := Lib.hid l3
    obtain ⟨len, hlen⟩ : ∃ len, xs.length = len := ⟨_, rfl⟩
    have hlen' : ys.length = len := by omega
    have HN := Lib.hid (And.intro hlen hlen')
    rw [hlen] at k1 hb ⊢
    rw [hlen'] at l1 hb ⊢
    clear k3 l3 hne hlen hlen'
    go_enter Tryd.func24, Tryd.ntmps24
    go_wp2
    go_loopw [5] (fun i wr => ∃ k : Nat, k ≤ len ∧ i = .int .i64 k ∧ Hid (∀ j : Nat, j < k → xs[j]? = ys[j]?) ∧ Below w.heap.size w wr) (fun i _ => len - (intOf i).toNat)
    case atStart => exact ⟨0, Nat.zero_le _, rfl, Lib.hid (fun j h => absurd h (Nat.not_lt_zero j)), Below.refl _ _⟩
    case round =>
      obtain ⟨k, hk, rfl, HF, hb1⟩ := hrel
      by_cases hlt : k < len
      · obtain ⟨bx, ox, rfl, hbx, hcx⟩ := HX.out (by rw [HN.out.1]; omega)
        obtain ⟨by', oy, rfl, hby, hcy⟩ := HY.out (by rw [HN.out.2]; omega)
        obtain ⟨x, hx⟩ : ∃ x, xs[k]? = some x := ⟨xs[k]'(by rw [HN.out.1]; exact hlt), List.getElem?_eq_getElem _⟩
        obtain ⟨y, hy⟩ : ∃ y, ys[k]? = some y := ⟨ys[k]'(by rw [HN.out.2]; exact hlt), List.getElem?_eq_getElem _⟩
        have cx : wr.cell? ⟨bx, ox + k, none⟩ = some (.int .i64 x) := (bcell hb1 hbx).trans (hcx k x hx)
        have cy : wr.cell? ⟨by', oy + k, none⟩ = some (.int .i64 y) := (bcell hb1 hby).trans (hcy k y hy)
        have hk0 : (0 : Int) ≤ (k : Int) := Int.natCast_nonneg k
        have hk1 : (k : Int) < (len : Int) := by omega
        have HB := Lib.hid hb1
        have Hxy := Lib.hid (And.intro hx hy)
        clear hb1 hx hy hcx hcy
        by_cases he : x = y
        · have ht : (x != y) = false := by simp [he]
          have He := Lib.hid he
          clear he
          go_wp2
          go_quiet (fail)
          go_wp2
          go_roundw
          case rel =>
            refine ⟨k + 1, by omega, by go_num, Lib.hid fun j hj => ?_, below_drewN HB.out _⟩
            rcases Nat.lt_or_ge j k with h | h
            · exact HF.out j h
            · obtain rfl : j = k := by omega
              rw [Hxy.out.1, Hxy.out.2, He.out]
          case measure => simp [intOf]; omega
        · have ht : (x != y) = true := by simp [he]
          have He := Lib.hid he
          clear he
          go_wp2
          go_quiet (fail)
          go_wp2
          go_ret
          refine ⟨ret_bool (by symm; apply decide_eq_false; intro h; apply He.out; have := Hxy.out.1; rw [h, Hxy.out.2] at this; cases this; rfl), below_drewN HB.out _⟩
      · obtain rfl : k = len := by omega
        go_wp2
        go_ret
        refine ⟨ret_bool (by symm; apply decide_eq_true; apply List.ext_getElem?; intro j; rcases Nat.lt_or_ge j k with h | h; exact HF.out j h; rw [List.getElem?_eq_none (by rw [HN.out.1]; exact h), List.getElem?_eq_none (by rw [HN.out.2]; exact h)]), hb1⟩
  · have hb : ((xs.length : Int) != (ys.length : Int)) = true := by simp; omega
    go_enter Tryd.func24, Tryd.ntmps24
    go_wp2
    go_ret
    exact ⟨ret_bool (by symm; apply decide_eq_false; intro h; apply hne; rw [h]), Below.refl _ _⟩
end Go.Proofs.YtkiaffaieniebaaDoor
