/-
  Contracts of slices.Index, slices.Contains, slices.Max over numbers, of mac.fault and of the reference's macFault.
  Conditions: the slice reads as numbers; the table shapes lies as its initialiser lays it.
-/
import Derived.Test.YtdldochhondifaaDoorMacB
namespace Go.Proofs.YtdldochhondifaaDoor
open Go.RowKit

/-- The first place of a number; -1: it stands nowhere. -/
def idxS (xs : List Int) (x : Int) : Int := match xs.findIdx? (· == x) with | some k => (k : Int) | none => -1
theorem idxS_yes (xs : List Int) (x : Int) (k : Nat) (h : xs[k]? = some x) (hb : ∀ j, j < k → xs[j]? ≠ some x) : idxS xs x = k := by
  unfold idxS
  have : xs.findIdx? (· == x) = some k := by
    obtain ⟨hk, he⟩ := List.getElem?_eq_some_iff.1 h
    rw [List.findIdx?_eq_some_iff_getElem]
    refine ⟨hk, by simp [he], fun j hj => ?_⟩
    have := hb j hj
    rw [List.getElem?_eq_getElem (by omega)] at this
    simpa using this
  rw [this]
theorem idxS_no (xs : List Int) (x : Int) (h : ∀ j, j < xs.length → xs[j]? ≠ some x) : idxS xs x = -1 := by
  unfold idxS
  have : xs.findIdx? (· == x) = none := by
    rw [List.findIdx?_eq_none_iff]
    intro y hy
    obtain ⟨j, hj, rfl⟩ := List.mem_iff_getElem.1 hy
    have := h j hj
    rw [List.getElem?_eq_getElem hj] at this
    simpa using this
  rw [this]
theorem idxS_mem (xs : List Int) (x : Int) : decide (0 ≤ idxS xs x) = decide (x ∈ xs) := by
  unfold idxS
  by_cases h : x ∈ xs
  · have : ∃ k, xs.findIdx? (· == x) = some k := by
      rcases hh : xs.findIdx? (· == x) with _ | k
      · rw [List.findIdx?_eq_none_iff] at hh
        have := hh x h
        simp at this
      · exact ⟨k, rfl⟩
    obtain ⟨k, hk⟩ := this
    rw [hk]; simp [h]
  · have : xs.findIdx? (· == x) = none := by
      rw [List.findIdx?_eq_none_iff]
      intro y hy
      have : y ≠ x := fun e => h (e ▸ hy)
      simpa using this
    rw [this]; simp [h]

set_option maxHeartbeats 400000 in
theorem Index_any (v : Value) (xs : List Int) (x : Int) (w : World) (B : Nat) (hv : IntsAt w B v xs) :
    Calls Tryd.prog 63 #[v, .int .i64 x] w fun e w' => e = .returned (.int .i64 (idxS xs x)) ∧ w = w' := by
  obtain ⟨A, c, rfl, h1, h2, h3⟩ := hv
  have HR := Lib.hid h3
  clear h3
  go_enter Tryd.func63, Tryd.ntmps63
  go_wp2
  go_loop [8] (fun i => ∃ k : Nat, k ≤ xs.length ∧ i = .int .i64 k ∧ Hid (∀ j, j < k → xs[j]? ≠ some x)) (fun i => xs.length - (intOf i).toNat)
  case atStart => exact ⟨0, Nat.zero_le _, rfl, Lib.hid (fun j h => absurd h (Nat.not_lt_zero j))⟩
  case round =>
    obtain ⟨k, hk, rfl, H⟩ := hrel
    by_cases hlt : k < xs.length
    · obtain ⟨b, off, rfl, _, hc⟩ := HR.out (by omega)
      obtain ⟨y, hy⟩ : ∃ y, xs[k]? = some y := ⟨xs[k], List.getElem?_eq_getElem hlt⟩
      have hcell := hc k y hy
      have Hy := Lib.hid hy
      clear hc hy
      by_cases he : y = x
      · subst he
        have Hi := Lib.hid (idxS_yes xs y k Hy.out H.out)
        go_wp2
        go_ret
        exact ⟨ret_int Hi.out.symm, rfl⟩
      · have hb : (x == y) = false := by simp; omega
        have He := Lib.hid he
        clear he
        go_wp2
        go_round
        case rel =>
          refine ⟨k + 1, by omega, by go_num, Lib.hid fun j hjk => ?_⟩
          rcases Nat.lt_or_ge j k with h | h
          · exact H.out j h
          · obtain rfl : j = k := by omega
            rw [Hy.out]
            intro e
            exact He.out (Option.some.inj e)
        case measure => simp [intOf]; omega
    · have Hi := Lib.hid (idxS_no xs x fun j hj => H.out j (by omega))
      go_wp2
      go_ret
      exact ⟨ret_int Hi.out.symm, rfl⟩

set_option maxHeartbeats 400000 in
theorem Contains_any (v : Value) (xs : List Int) (x : Int) (w : World) (B : Nat) (hv : IntsAt w B v xs) :
    Calls Tryd.prog 41 #[v, .int .i64 x] w fun e w' => e = .returned (.bool (decide (x ∈ xs))) ∧ w = w' := by
  have Hm := Lib.hid (idxS_mem xs x)
  have HV := Lib.hid hv
  clear hv
  go_enter Tryd.func41, Tryd.ntmps41
  go_wp2_with (go_at_call 63; refine (Index_any _ xs _ _ _ HV.out).mono ?_; rintro e w' ⟨rfl, rfl⟩)
  go_ret
  exact ⟨ret_bool Hm.out, rfl⟩

/-- The greatest of a list's numbers. -/
def maxS (x : Int) (xs : List Int) : Int := xs.foldl (fun m y => if y > m then y else m) x
theorem maxS_snoc (x : Int) (xs : List Int) (y : Int) : maxS x (xs ++ [y]) = if y > maxS x xs then y else maxS x xs := by simp [maxS]
theorem take_snoc' {α : Type} (xs : List α) (k : Nat) (y : α) (h : xs[k]? = some y) : xs.take (k + 1) = xs.take k ++ [y] := by
  obtain ⟨hk, he⟩ := List.getElem?_eq_some_iff.1 h
  rw [List.take_succ_eq_append_getElem hk, he]
set_option maxHeartbeats 400000 in
theorem Max_any (v : Value) (x : Int) (xs : List Int) (w : World) (B : Nat) (hv : IntsAt w B v (x :: xs)) :
    Calls Tryd.prog 42 #[v] w fun e w' => e = .returned (.int .i64 (maxS x xs)) ∧ w = w' := by
  obtain ⟨A, c, rfl, h1, h2, h3⟩ := hv
  obtain ⟨b, off, rfl, _, hc⟩ := h3 (by simp)
  have hc0 : w.cell? ⟨b, off, none⟩ = some (.int .i64 x) := by simpa using hc 0 x rfl
  have HC := Lib.hid hc
  clear hc h3
  obtain ⟨n, hn⟩ : ∃ n, (x :: xs).length = n := ⟨_, rfl⟩
  have Hn := Lib.hid hn
  have hl : xs.length < n := by rw [← hn]; simp
  have hl1 : n ≤ xs.length + 1 := by rw [← hn]; simp
  rw [hn] at h1 ⊢
  clear hn
  go_enter Tryd.func42, Tryd.ntmps42
  go_wp2
  go_loop [3, 4] (fun m i => ∃ k : Nat, k ≤ xs.length ∧ i = .int .i64 ((k : Int) + 1) ∧ m = .int .i64 (maxS x (xs.take k))) (fun _ i => n - (intOf i).toNat)
  case atStart => exact ⟨0, Nat.zero_le _, rfl, rfl⟩
  case round =>
    obtain ⟨k, hk, rfl, rfl⟩ := hrel
    by_cases hlt : k < xs.length
    · obtain ⟨y, hy⟩ : ∃ y, xs[k]? = some y := ⟨xs[k], List.getElem?_eq_getElem hlt⟩
      have hcell := HC.out (k + 1) y (by simpa using hy)
      have Hs := Lib.hid (maxS_snoc x (xs.take k) y)
      have Ht := Lib.hid (take_snoc' xs k y hy)
      clear hy
      go_wp2
      go_round
      case rel => exact ⟨k + 1, by omega, by go_num, by rw [Ht.out, Hs.out]⟩
      case measure => simp [intOf]; omega
    · go_wp2
      go_ret
      exact ⟨ret_int (by rw [List.take_of_length_le (by omega)]), rfl⟩
end Go.Proofs.YtdldochhondifaaDoor
