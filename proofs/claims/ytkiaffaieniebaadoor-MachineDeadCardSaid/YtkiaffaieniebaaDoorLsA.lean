/-
  Contract of the laws' hasInt: does a list hold a number?
  Conditions: the slice reads as numbers.
-/
import Derived.Test.YtkiaffaieniebaaDoorMacM
namespace Go.Proofs.YtkiaffaieniebaaDoor
open Go.RowKit

def hasB (xs : List Int) (x : Int) : Bool := xs.any fun y => y == x
theorem hasB_list (P : Nat → Bool) (n r : Nat) (hr : r < n) : hasB (listP P n) (r : Int) = P r := by
  unfold hasB listP
  rw [Bool.eq_iff_iff, List.any_eq_true]
  constructor
  · rintro ⟨y, hy, he⟩
    obtain ⟨q, hq, rfl⟩ := List.mem_map.1 hy
    have := (List.mem_filter.1 hq).2
    have e : q = r := by have h1 := eq_of_beq he; omega
    rwa [← e]
  · intro h
    exact ⟨(r : Int), List.mem_map.2 ⟨r, List.mem_filter.2 ⟨List.mem_range.2 hr, h⟩, rfl⟩, by simp⟩
set_option maxHeartbeats 1000000 in
theorem hasInt_any (v : Value) (xs : List Int) (x : Int) (B : Nat) (w : World) (hv : IntsAt w B v xs) :
    Calls Tryd.prog 30 #[v, .int .i64 x] w fun e w' => e = .returned (.bool (hasB xs x)) ∧ w = w' := by
  obtain ⟨A, c, rfl, hl, hc63, hcell⟩ := hv
  have HC := Lib.hid hcell
  clear hcell
  obtain ⟨len, hlen⟩ : ∃ len, xs.length = len := ⟨_, rfl⟩
  have HL := Lib.hid hlen
  rw [hlen] at hl HC ⊢
  clear hlen
  go_enter Tryd.func30, Tryd.ntmps30
  go_wp2_with fail
  go_loop [5] (fun i => ∃ k : Nat, k ≤ len ∧ i = .int .i64 k ∧ Hid (∀ (j : Nat) (y : Int), j < k → xs[j]? = some y → y ≠ x)) (fun i => len - (intOf i).toNat)
  case atStart => exact ⟨0, Nat.zero_le _, rfl, Lib.hid (fun j y h => absurd h (Nat.not_lt_zero j))⟩
  case round =>
    obtain ⟨k, hk, rfl, HF⟩ := hrel
    by_cases hlt : k < len
    · obtain ⟨b, off, hA, _, hcc⟩ := HC.out (by omega)
      subst hA
      obtain ⟨y, hy⟩ : ∃ y, xs[k]? = some y := ⟨xs[k]'(by rw [HL.out]; exact hlt), List.getElem?_eq_getElem _⟩
      have cy := hcc k y hy
      have Hy := Lib.hid hy
      clear hy hcc
      by_cases he : y = x
      · have hb : (y == x) = true := by simp [he]
        have HE : Hid (hasB xs x = true) := Lib.hid (by unfold hasB; rw [List.any_eq_true]; exact ⟨y, List.mem_of_getElem? Hy.out, hb⟩)
        clear he
        go_wp2_with fail
        go_ret
        exact ⟨ret_bool HE.out.symm, rfl⟩
      · have hb : (y == x) = false := by simp [he]
        have He := Lib.hid he
        clear he
        go_wp2_with fail
        go_round
        case rel =>
          refine ⟨k + 1, by omega, by go_num, Lib.hid fun j z hj hz => ?_⟩
          rcases Nat.lt_or_ge j k with h | h
          · exact HF.out j z h hz
          · obtain rfl : j = k := by omega
            rw [Hy.out] at hz
            cases hz
            exact He.out
        case measure => simp [intOf]; omega
    · have HE : Hid (hasB xs x = false) := Lib.hid (by
        unfold hasB
        rw [List.any_eq_false]
        intro y hy
        obtain ⟨j, hj⟩ := List.mem_iff_getElem?.1 hy
        have hjl := (List.getElem?_eq_some_iff.1 hj).1
        have := HF.out j y (by have := HL.out; omega) hj
        simpa using this)
      go_wp2_with fail
      go_ret
      exact ⟨ret_bool HE.out.symm, rfl⟩
end Go.Proofs.YtkiaffaieniebaaDoor
