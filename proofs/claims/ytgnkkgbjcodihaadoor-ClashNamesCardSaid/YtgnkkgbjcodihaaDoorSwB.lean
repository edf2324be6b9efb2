/-
  The laws' swap, swapVal, pickOf.
  Conditions: as the theorems say.
-/
import Derived.Test.YtgnkkgbjcodihaaDoorSwA
namespace Go.Proofs.YtgnkkgbjcodihaaDoor
open Go.RowKit

theorem tmod_neg (a n : Int) (hn : 0 < n) : (a.tmod n < 0 ∧ a.tmod n + n = a % n ∧ -n < a.tmod n) ∨ (¬ a.tmod n < 0 ∧ a.tmod n = a % n) := by
  have h := @Int.tmod_eq_emod a n
  have h1 := Int.emod_nonneg a (show n ≠ 0 by omega)
  have h2 := Int.emod_lt_of_pos a hn
  split at h
  · right
    omega
  · left
    have h3 : (n.natAbs : Int) = n := by omega
    rw [h3] at h
    omega
set_option maxHeartbeats 1000000 in
theorem pickOf_any (a n : Int) (w : World) (hn : 0 < n) (hn2 : n ≤ 1000) (ha : I64 a) :
    Calls Tryd.prog 23 #[.int .i64 a, .int .i64 n] w fun e w' => e = .returned (.int .i64 (a % n)) ∧ w = w' := by
  unfold I64 at ha
  obtain ⟨ha1, ha2⟩ := ha
  have h4 := Int.emod_nonneg a (show n ≠ 0 by omega)
  have h5 := Int.emod_lt_of_pos a hn
  rcases tmod_neg a n hn with ⟨h1, h2, h3⟩ | ⟨h1, h2⟩
  · have H2 := Lib.hid h2
    clear h2
    go_enter Tryd.func23, Tryd.ntmps23
    go_wp2
    go_ret
    exact ⟨ret_int H2.out, rfl⟩
  · have H2 := Lib.hid h2
    clear h2
    go_enter Tryd.func23, Tryd.ntmps23
    go_wp2
    go_ret
    exact ⟨ret_int H2.out, rfl⟩
theorem swap_any (r p q : Int) (w : World) : Calls Tryd.prog 25 #[.int .i64 r, .int .i64 p, .int .i64 q] w fun e w' => e = .returned (.int .i64 (swR p q r)) ∧ w = w' := by
  by_cases h1 : r = p
  · have hb : (r == p) = true := by simpa using h1
    have HE : Hid (q = swR p q r) := Lib.hid (by unfold swR; rw [if_pos h1])
    clear h1
    go_enter Tryd.func25, Tryd.ntmps25
    go_wp2
    go_ret
    exact ⟨ret_int HE.out, rfl⟩
  · have hb : (r == p) = false := by simpa using h1
    by_cases h2 : r = q
    · have hb2 : (r == q) = true := by simpa using h2
      have HE : Hid (p = swR p q r) := Lib.hid (by unfold swR; rw [if_neg h1, if_pos h2])
      clear h1 h2
      go_enter Tryd.func25, Tryd.ntmps25
      go_wp2
      go_ret
      exact ⟨ret_int HE.out, rfl⟩
    · have hb2 : (r == q) = false := by simpa using h2
      have HE : Hid (r = swR p q r) := Lib.hid (by unfold swR; rw [if_neg h1, if_neg h2])
      clear h1 h2
      go_enter Tryd.func25, Tryd.ntmps25
      go_wp2
      go_ret
      exact ⟨ret_int HE.out, rfl⟩
set_option maxHeartbeats 1000000 in
theorem swapVal_any (v : Opd) (p q : Int) (w : World) :
    Calls Tryd.prog 43 #[.agg #[.bool v.reg, .int .i64 v.n], .int .i64 p, .int .i64 q] w fun e w' => e = .returned (.agg #[.bool (swV p q v).reg, .int .i64 (swV p q v).n]) ∧ Below w.heap.size w w' := by
  obtain ⟨r, n⟩ := v
  have HB : Hid (Below w.heap.size w ((w.alloc (.cells #[.bool r, .int .i64 n] 40)).alloc (.cells #[.bool false, .int .i64 0] 40))) := Lib.hid (((Below.refl _ _).alloc (Nat.le_refl _) _).alloc (by simp) _)
  have HV : Hid (Blk ((w.alloc (.cells #[.bool r, .int .i64 n] 40)).alloc (.cells #[.bool false, .int .i64 0] 40)) w.heap.size 40 #[.bool r, .int .i64 n]) := Lib.hid ((Blk.new w _ _).alloc _)
  have HR : Hid (Blk ((w.alloc (.cells #[.bool r, .int .i64 n] 40)).alloc (.cells #[.bool false, .int .i64 0] 40)) (w.heap.size + 1) 40 #[.bool false, .int .i64 0]) := Lib.hid (by simpa using Blk.new (w.alloc (.cells #[.bool r, .int .i64 n] 40)) 40 #[.bool false, .int .i64 0])
  go_enter Tryd.func43, Tryd.ntmps43
  go_upto_region 1 with fail
  generalize (w.alloc (.cells #[.bool r, .int .i64 n] 40)).alloc (.cells #[.bool false, .int .i64 0] 40) = W0 at *
  have hne : w.heap.size ≠ w.heap.size + 1 := by omega
  obtain ⟨g1, hg1⟩ : ∃ g1, w.heap.size + 1 = g1 := ⟨_, rfl⟩
  rw [hg1] at HR hne ⊢
  have Hlg : Hid (w.heap.size ≤ g1) := Lib.hid (by omega)
  clear hg1
  have v0 := HV.out.cell 0
  have v1 := HV.out.cell 1
  have z0 := HV.out.frozen 0
  have z1 := HV.out.frozen 1
  have r0 := HR.out.cell 0
  have r1 := HR.out.cell 1
  have y0 := HR.out.frozen 0
  have y1 := HR.out.frozen 1
  cases r with
  | false =>
    have HE : Hid (swV p q ⟨false, n⟩ = ⟨false, n⟩) := Lib.hid rfl
    go_wp2_with fail
    exact end_cell rfl rfl (HR.out.set2 _ _) Tryd.underlying40 rfl (by kernel_rfl) rfl ⟨by rw [HE.out], (HB.out.setCell Hlg.out _).setCell Hlg.out _⟩
  | true =>
    have HE : Hid (swV p q ⟨true, n⟩ = ⟨true, swR p q n⟩) := Lib.hid rfl
    go_wp2_with fail
    refine (swap_any n p q W0).mono ?_
    rintro e w1 ⟨rfl, rfl⟩
    go_wp2_with fail
    exact end_cell rfl rfl ((HR.out.far hne.symm _).set2 _ _) Tryd.underlying40 rfl (by kernel_rfl) rfl ⟨by rw [HE.out], ((HB.out.setCell (Nat.le_refl _) _).setCell Hlg.out _).setCell Hlg.out _⟩
end Go.Proofs.YtgnkkgbjcodihaaDoor
