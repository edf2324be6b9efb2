/-
  The laws MacReadsSays and MacWritesSays walk to true.
  Conditions: the table shapes lies as its initialiser lays it.
-/
import Derived.Test.YtkecgobbklmeaaaDoorMacM
namespace Go.Proofs.YtkecgobbklmeaaaDoor
open Go.RowKit

set_option maxRecDepth 100000 in
set_option maxHeartbeats 1000000 in
theorem MacReadsSays_any (op dst a b n : Int) (w : World) (ht : Tab w) :
    Calls Tryd.prog 5 #[.agg #[.int .i64 op, .int .i64 dst, .int .i64 a, .int .i64 b, .int .i64 n]] w fun e w' => e = .returned (.bool true) ∧ Below w.heap.size w w' := by
  have HT := Lib.hid ht
  clear ht
  have s1 := Reads_any op dst a b n (w.alloc (.cells #[.int .i64 op, .int .i64 dst, .int .i64 a, .int .i64 b, .int .i64 n] 28)) (HT.out.own ((Below.refl _ _).alloc (Nat.le_refl _) _))
  have HS := Lib.hid s1
  clear s1
  go_enter Tryd.func5, Tryd.ntmps5
  go_wp2_with fail
  refine HS.out.mono ?_
  rintro e w1 ⟨v1, rfl, hi1, hb1⟩
  have hz : w.heap.size < w1.heap.size := by have := hb1.size; simp at this; omega
  have c0 : w1.cell? ⟨w.heap.size, 0, none⟩ = some (.int .i64 op) := by rw [bcell hb1 (by simp)]; simp [go_sem]
  have c1 : w1.cell? ⟨w.heap.size, 1, none⟩ = some (.int .i64 dst) := by rw [bcell hb1 (by simp)]; simp [go_sem]
  have c2 : w1.cell? ⟨w.heap.size, 2, none⟩ = some (.int .i64 a) := by rw [bcell hb1 (by simp)]; simp [go_sem]
  have c3 : w1.cell? ⟨w.heap.size, 3, none⟩ = some (.int .i64 b) := by rw [bcell hb1 (by simp)]; simp [go_sem]
  have c4 : w1.cell? ⟨w.heap.size, 4, none⟩ = some (.int .i64 n) := by rw [bcell hb1 (by simp)]; simp [go_sem]
  have HB1 : Hid (Below w.heap.size w w1) := Lib.hid (((Below.refl _ _).alloc (Nat.le_refl _) _).trans (hb1.mono (by simp)))
  have HI1 := Lib.hid hi1
  clear hb1 hi1
  go_wp2_with fail
  refine (MacReads_any op dst a b n _).mono ?_
  rintro e w2 ⟨v2, rfl, hi2, hb2⟩
  have hz2 : w1.heap.size < w2.heap.size := by have := hb2.size; simp at this; omega
  have HK1 : Hid (Blk w2 w1.heap.size 24 #[.int .i64 (faultS ⟨op, dst, a, b, n⟩ 5000), .int .i64 0]) := Lib.hid ((Blk.new w1 24 #[.int .i64 (faultS ⟨op, dst, a, b, n⟩ 5000), .int .i64 0]).below hb2 (by simp))
  have HB12 : Hid (Below w1.heap.size w1 w2) := Lib.hid (((Below.refl _ _).alloc (Nat.le_refl _) _).trans (hb2.mono (by simp)))
  have HI2 := Lib.hid hi2
  clear hb2 hi2 c0 c1 c2 c3 c4
  go_wp2_with fail
  refine (Ints_any v1 v2 (rdL ⟨op, dst, a, b, n⟩) (rdL ⟨op, dst, a, b, n⟩) _ ((HI1.out.below (HB12.out.alloc (Nat.le_of_lt hz2) _) (Nat.le_refl _)).more (by simp; omega)) ((HI2.out.below ((Below.refl _ _).alloc (Nat.le_refl _) _) (Nat.le_refl _)).more (by simp))).mono ?_
  rintro e w3 ⟨he, hb3⟩
  rw [decide_eq_true rfl] at he
  subst he
  have hkA := (HK1.out.alloc (.cells #[.int .i64 (faultS ⟨op, dst, a, b, n⟩ 5000), .int .i64 0] 24)).below hb3 (by simp; omega)
  have hkB := (Blk.new w2 24 #[.int .i64 (faultS ⟨op, dst, a, b, n⟩ 5000), .int .i64 0]).below hb3 (by simp)
  have r0 := hkA.cell 0
  have r1 := hkA.cell 1
  have q0 := hkB.cell 0
  have q1 := hkB.cell 1
  have HB3 : Hid (Below w.heap.size w w3) := Lib.hid ((HB1.out.trans (HB12.out.mono (by omega))).trans (((Below.refl _ _).alloc (by omega) _).trans (hb3.mono (by simp; omega))))
  clear hb3 hkA hkB
  go_wp2_with fail
  go_ret
  exact ⟨ret_bool (by simp), HB3.out⟩

set_option maxRecDepth 100000 in
set_option maxHeartbeats 1000000 in
theorem MacWritesSays_any (op dst a b n : Int) (w : World) (ht : Tab w) :
    Calls Tryd.prog 4 #[.agg #[.int .i64 op, .int .i64 dst, .int .i64 a, .int .i64 b, .int .i64 n]] w fun e w' => e = .returned (.bool true) ∧ Below w.heap.size w w' := by
  have HT := Lib.hid ht
  clear ht
  have s1 := Writes_any op dst a b n (w.alloc (.cells #[.int .i64 op, .int .i64 dst, .int .i64 a, .int .i64 b, .int .i64 n] 28)) (HT.out.own ((Below.refl _ _).alloc (Nat.le_refl _) _))
  have HS := Lib.hid s1
  clear s1
  go_enter Tryd.func4, Tryd.ntmps4
  go_wp2_with fail
  refine HS.out.mono ?_
  rintro e w1 ⟨v1, rfl, hi1, hb1⟩
  have hz : w.heap.size < w1.heap.size := by have := hb1.size; simp at this; omega
  have c0 : w1.cell? ⟨w.heap.size, 0, none⟩ = some (.int .i64 op) := by rw [bcell hb1 (by simp)]; simp [go_sem]
  have c1 : w1.cell? ⟨w.heap.size, 1, none⟩ = some (.int .i64 dst) := by rw [bcell hb1 (by simp)]; simp [go_sem]
  have c2 : w1.cell? ⟨w.heap.size, 2, none⟩ = some (.int .i64 a) := by rw [bcell hb1 (by simp)]; simp [go_sem]
  have c3 : w1.cell? ⟨w.heap.size, 3, none⟩ = some (.int .i64 b) := by rw [bcell hb1 (by simp)]; simp [go_sem]
  have c4 : w1.cell? ⟨w.heap.size, 4, none⟩ = some (.int .i64 n) := by rw [bcell hb1 (by simp)]; simp [go_sem]
  have HB1 : Hid (Below w.heap.size w w1) := Lib.hid (((Below.refl _ _).alloc (Nat.le_refl _) _).trans (hb1.mono (by simp)))
  have HI1 := Lib.hid hi1
  clear hb1 hi1
  go_wp2_with fail
  refine (MacWrites_any op dst a b n _).mono ?_
  rintro e w2 ⟨v2, rfl, hi2, hb2⟩
  have hz2 : w1.heap.size < w2.heap.size := by have := hb2.size; simp at this; omega
  have HK1 : Hid (Blk w2 w1.heap.size 24 #[.int .i64 (faultS ⟨op, dst, a, b, n⟩ 5000), .int .i64 0]) := Lib.hid ((Blk.new w1 24 #[.int .i64 (faultS ⟨op, dst, a, b, n⟩ 5000), .int .i64 0]).below hb2 (by simp))
  have HB12 : Hid (Below w1.heap.size w1 w2) := Lib.hid (((Below.refl _ _).alloc (Nat.le_refl _) _).trans (hb2.mono (by simp)))
  have HI2 := Lib.hid hi2
  clear hb2 hi2 c0 c1 c2 c3 c4
  go_wp2_with fail
  refine (Ints_any v1 v2 (wrL ⟨op, dst, a, b, n⟩) (wrL ⟨op, dst, a, b, n⟩) _ ((HI1.out.below (HB12.out.alloc (Nat.le_of_lt hz2) _) (Nat.le_refl _)).more (by simp; omega)) ((HI2.out.below ((Below.refl _ _).alloc (Nat.le_refl _) _) (Nat.le_refl _)).more (by simp))).mono ?_
  rintro e w3 ⟨he, hb3⟩
  rw [decide_eq_true rfl] at he
  subst he
  have hkA := (HK1.out.alloc (.cells #[.int .i64 (faultS ⟨op, dst, a, b, n⟩ 5000), .int .i64 0] 24)).below hb3 (by simp; omega)
  have hkB := (Blk.new w2 24 #[.int .i64 (faultS ⟨op, dst, a, b, n⟩ 5000), .int .i64 0]).below hb3 (by simp)
  have r0 := hkA.cell 0
  have r1 := hkA.cell 1
  have q0 := hkB.cell 0
  have q1 := hkB.cell 1
  have HB3 : Hid (Below w.heap.size w w3) := Lib.hid ((HB1.out.trans (HB12.out.mono (by omega))).trans (((Below.refl _ _).alloc (by omega) _).trans (hb3.mono (by simp; omega))))
  clear hb3 hkA hkB
  go_wp2_with fail
  go_ret
  exact ⟨ret_bool (by simp), HB3.out⟩
end Go.Proofs.YtkecgobbklmeaaaDoor
