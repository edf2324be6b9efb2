/-
  Contracts of turnerykit's Picked and MacOf.
  Conditions: numbers of Go's int; a positive number to be picked below.
-/
import Derived.Test.YtliampeaecgagaaDoorKtP
import Derived.Test.YtliampeaecgagaaDoorKitC
namespace Go.Proofs.YtliampeaecgagaaDoor
open Go.RowKit

theorem tmod_neg (a n : Int) (hn : 0 < n) (ha : a < 0) : (a.tmod n < 0 ∧ a.tmod n + n = a % n ∧ -n < a.tmod n) ∨ (a.tmod n = 0 ∧ a % n = 0) := by
  have h := @Int.tmod_eq_emod a n
  have h1 := Int.emod_nonneg a (show n ≠ 0 by omega)
  have h2 := Int.emod_lt_of_pos a hn
  by_cases hd : n ∣ a
  · right
    rw [if_pos (.inr hd)] at h
    have := Int.emod_eq_zero_of_dvd hd
    omega
  · left
    rw [if_neg (by rintro (h | h); omega; exact hd h)] at h
    have h3 : (n.natAbs : Int) = n := by omega
    rw [h3] at h
    omega
set_option maxHeartbeats 1000000 in
theorem Picked_any (a n : Int) (w : World) (hn : 0 < n) (hn2 : n ≤ 9223372036854775807) (ha : I64 a) :
    Calls Tryd.prog 24 #[.int .i64 a, .int .i64 n] w fun e w' => e = .returned (.int .i64 (a % n)) ∧ w = w' := by
  unfold I64 at ha
  obtain ⟨ha1, ha2⟩ := ha
  by_cases h0 : 0 ≤ a
  · have h1 := Int.emod_nonneg a (show n ≠ 0 by omega)
    have h2 := Int.emod_lt_of_pos a hn
    go_enter Tryd.func24, Tryd.ntmps24
    go_wp2
    go_ret
    exact ⟨rfl, rfl⟩
  · have hneg : a < 0 := by omega
    rcases tmod_neg a n hn hneg with ⟨h1, h2, h3⟩ | ⟨h1, h2⟩
    · have H2 := Lib.hid h2
      clear h2
      go_enter Tryd.func24, Tryd.ntmps24
      go_wp2
      go_ret
      exact ⟨ret_int H2.out, rfl⟩
    · have H2 := Lib.hid h2
      clear h2
      go_enter Tryd.func24, Tryd.ntmps24
      go_wp2
      go_ret
      exact ⟨ret_int H2.out.symm, rfl⟩
/-- The shapes that there are. -/
theorem shapes (op : Int) (h : isOp op = true) : ∃ d a b : Bool, ∃ n t w r : Bool, hasS (fldS op) 100 = d ∧ hasS (fldS op) 97 = a ∧ hasS (fldS op) 98 = b ∧ hasS (fldS op) 110 = n ∧ hasS (fldS op) 116 = t ∧ hasS (fldS op) 119 = w ∧ hasS (fldS op) 114 = r ∧
    (d, a, b, n, t, w, r) ∈ [(true, true, true, false, false, false, false), (true, true, false, true, false, false, false), (false, true, true, false, true, false, false), (true, false, false, true, false, false, false), (true, true, false, false, false, false, false),
      (false, true, true, true, false, false, false), (true, false, false, false, false, true, false), (false, true, false, false, false, true, false), (false, false, false, false, true, false, false), (false, true, false, false, true, false, false),
      (false, false, false, false, false, false, true), (false, false, false, false, false, false, false), (true, false, false, false, false, false, false), (false, true, false, false, false, false, false)] := by
  rw [isOp_iff] at h
  refine ⟨_, _, _, _, _, _, _, rfl, rfl, rfl, rfl, rfl, rfl, rfl, ?_⟩
  have key : ∀ k : Fin 48, 1 ≤ k.val → (hasS (fldS (k.val : Int)) 100, hasS (fldS (k.val : Int)) 97, hasS (fldS (k.val : Int)) 98, hasS (fldS (k.val : Int)) 110, hasS (fldS (k.val : Int)) 116, hasS (fldS (k.val : Int)) 119, hasS (fldS (k.val : Int)) 114) ∈
      [(true, true, true, false, false, false, false), (true, true, false, true, false, false, false), (false, true, true, false, true, false, false), (true, false, false, true, false, false, false), (true, true, false, false, false, false, false),
      (false, true, true, true, false, false, false), (true, false, false, false, false, true, false), (false, true, false, false, false, true, false), (false, false, false, false, true, false, false), (false, true, false, false, true, false, false),
      (false, false, false, false, false, false, true), (false, false, false, false, false, false, false), (true, false, false, false, false, false, false), (false, true, false, false, false, false, false)] := by decide +kernel
  have := key ⟨op.toNat, by omega⟩ (by simp; omega)
  simp only [show ((op.toNat : Nat) : Int) = op from by omega] at this
  exact this
end Go.Proofs.YtliampeaecgagaaDoor
