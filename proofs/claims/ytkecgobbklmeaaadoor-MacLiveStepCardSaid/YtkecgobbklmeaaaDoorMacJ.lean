/-
  Contracts of mac.Reads and mac.Writes: the registers in rising order, or what is wrong with the instruction.
  Conditions: the table shapes lies as its initialiser lays it.
-/
import Derived.Test.YtkecgobbklmeaaaDoorMacI
namespace Go.Proofs.YtkecgobbklmeaaaDoor
open Go.RowKit

/-- The numbers below k of which P holds, rising. -/
def listP (P : Nat → Bool) (k : Nat) : List Int := ((List.range k).filter P).map fun (r : Nat) => (r : Int)
theorem listP_succ (P : Nat → Bool) (k : Nat) : listP P (k + 1) = if P k then listP P k ++ [(k : Int)] else listP P k := by
  unfold listP
  rw [List.range_succ, List.filter_append, List.map_append]
  by_cases h : P k <;> simp [h]
theorem listP_len (P : Nat → Bool) (k : Nat) : (listP P k).length ≤ k := by
  unfold listP
  rw [List.length_map]
  exact Nat.le_trans (List.length_filter_le _ _) (by simp)
theorem bitsTo_eq {s : Nat} {P : Nat → Bool} (h : HasBits s P) : bitsTo s 16 = listP P 16 := by
  unfold bitsTo listP
  rw [List.filter_congr fun r hr => h.2 r (List.mem_range.1 hr)]
/-- What a function that tells registers comes to. -/
def RegsPost (w : World) (c : Int) (xs : List Int) (e : Ending) (w' : World) : Prop :=
  ∃ v, e = .returned (.tuple #[v, .agg #[.int .i64 c, .int .i64 0]]) ∧ IntsAt w' w'.heap.size v xs ∧ Below w.heap.size w w'
/-- The registers that are told: none, if something is wrong. -/
def rdL (m : Mac) : List Int := if faultS m 5000 = 0 then listP (rdS m) 16 else []
def wrL (m : Mac) : List Int := if faultS m 5000 = 0 then listP (wrS m) 16 else []
theorem ints_nil (w : World) (B : Nat) : IntsAt w B (.slice none 0 0) [] := ⟨none, 0, rfl, by simp, by omega, fun h => by simp at h⟩
theorem OwnInts.set {w : World} {base : Nat} {v : Value} {xs : List Int} (h : OwnInts w base v xs) {b o : Nat} (hb : b < base) (u : Value) : OwnInts (w.setCell ⟨b, o, none⟩ u) base v xs :=
  ownsRow_setCell_below (a := ⟨b, o, none⟩) h hb u

set_option maxRecDepth 100000 in
set_option maxHeartbeats 2000000 in
theorem Reads_any (op dst a b n : Int) (w : World) (ht : Tab w) :
    Calls Tryd.prog 30 #[.agg #[.int .i64 op, .int .i64 dst, .int .i64 a, .int .i64 b, .int .i64 n]] w (RegsPost w (faultS ⟨op, dst, a, b, n⟩ 5000) (rdL ⟨op, dst, a, b, n⟩)) := by
  have HT := Lib.hid ht
  clear ht
  have start : Calls Tryd.prog 62 #[.agg #[.int .i64 op, .int .i64 dst, .int .i64 a, .int .i64 b, .int .i64 n], .int .i64 5000] ((w.alloc (.cells #[.int .i64 op, .int .i64 dst, .int .i64 a, .int .i64 b, .int .i64 n] 28)).alloc (.cells #[.int .i64 0, .int .i64 0] 24))
      fun e w' => e = .returned (.int .i64 (faultS ⟨op, dst, a, b, n⟩ 5000)) ∧ Below (w.heap.size + 2) ((w.alloc (.cells #[.int .i64 op, .int .i64 dst, .int .i64 a, .int .i64 b, .int .i64 n] 28)).alloc (.cells #[.int .i64 0, .int .i64 0] 24)) w' :=
    (fault_any op dst a b n 5000 _ ((HT.out.own ((Below.refl _ _).alloc (Nat.le_refl _) _)).own ((Below.refl _ _).alloc (Nat.le_refl _) _))).mono fun e w' h => ⟨h.1, by simpa using h.2⟩
  have HS := Lib.hid start
  clear start
  by_cases hf : faultS ⟨op, dst, a, b, n⟩ 5000 = 0
  · have hf0 : (faultS ⟨op, dst, a, b, n⟩ 5000 != 0) = false := by simp [hf]
    have Hf := Lib.hid hf
    have HR := Lib.hid (regs_of_fault _ _ hf).2
    have HL : Hid (rdL ⟨op, dst, a, b, n⟩ = listP (rdS ⟨op, dst, a, b, n⟩) 16) := Lib.hid (by unfold rdL; rw [if_pos hf])
    clear hf
    go_enter Tryd.func30, Tryd.ntmps30
    go_wp2_with fail
    refine HS.out.mono ?_
    rintro e w1 ⟨rfl, hb1⟩
    have hz : w.heap.size + 1 < w1.heap.size := by have := hb1.size; simp at this; omega
    have c0 : w1.cell? ⟨w.heap.size, 0, none⟩ = some (.int .i64 op) := by rw [bcell hb1 (by omega)]; simp [go_sem]
    have c1 : w1.cell? ⟨w.heap.size, 1, none⟩ = some (.int .i64 dst) := by rw [bcell hb1 (by omega)]; simp [go_sem]
    have c2 : w1.cell? ⟨w.heap.size, 2, none⟩ = some (.int .i64 a) := by rw [bcell hb1 (by omega)]; simp [go_sem]
    have c3 : w1.cell? ⟨w.heap.size, 3, none⟩ = some (.int .i64 b) := by rw [bcell hb1 (by omega)]; simp [go_sem]
    have c4 : w1.cell? ⟨w.heap.size, 4, none⟩ = some (.int .i64 n) := by rw [bcell hb1 (by omega)]; simp [go_sem]
    have HK1 : Hid (Blk w1 (w.heap.size + 1) 24 #[.int .i64 0, .int .i64 0]) := Lib.hid (by
      have h0 : Blk ((w.alloc (.cells #[.int .i64 op, .int .i64 dst, .int .i64 a, .int .i64 b, .int .i64 n] 28)).alloc (.cells #[.int .i64 0, .int .i64 0] 24)) (w.alloc (.cells #[.int .i64 op, .int .i64 dst, .int .i64 a, .int .i64 b, .int .i64 n] 28)).heap.size 24 #[.int .i64 0, .int .i64 0] := Blk.new _ _ _
      rw [World.size_alloc] at h0
      exact h0.below hb1 (by omega))
    have HB1 : Hid (Below w.heap.size w w1) := Lib.hid ((((Below.refl _ _).alloc (Nat.le_refl _) _).alloc (by simp) _).trans (hb1.mono (by omega)))
    clear hb1
    go_wp2_with fail
    refine (reads_any op dst a b n _ (HT.out.own HB1.out) HR.out).mono ?_
    rintro e w2 ⟨rfl, hb2⟩
    have HK2 := Lib.hid (HK1.out.below hb2 hz)
    have HB2 := Lib.hid (HB1.out.trans (hb2.mono HB1.out.size))
    have hz2 : w.heap.size + 1 < w2.heap.size := by have := hb2.size; omega
    clear hb2 c0 c1 c2 c3 c4
    go_wp2_with fail
    refine (list_any _ (rd_bits _ HR.out).1 _).mono ?_
    rintro e w3 ⟨v, rfl, ho, hb3⟩
    have hk3 := HK2.out.below hb3 hz2
    have r0 := hk3.cell 0
    have r1 := hk3.cell 1
    have f0 := hk3.frozen 0
    have f1 := hk3.frozen 1
    have HK3 := Lib.hid hk3
    have HB3 := Lib.hid (HB2.out.trans (hb3.mono HB2.out.size))
    have HO := Lib.hid ho
    clear hb3 hk3 ho
    go_wp2_with fail
    refine end_tmp_cell rfl rfl (HK3.out.set2 _ _) Tryd.underlying24 rfl (by kernel_rfl) rfl ⟨v, by rw [Hf.out]; rfl, ?_, (HB3.out.setCell (by simp) _).setCell (by simp) _⟩
    rw [HL.out, ← bitsTo_eq (rd_bits _ HR.out)]
    exact ((HO.out.set hz2 _).set hz2 _).ints
  · have hf0 : (faultS ⟨op, dst, a, b, n⟩ 5000 != 0) = true := by simp [hf]
    have HL : Hid (rdL ⟨op, dst, a, b, n⟩ = []) := Lib.hid (by unfold rdL; rw [if_neg hf])
    clear hf
    go_enter Tryd.func30, Tryd.ntmps30
    go_wp2_with fail
    refine HS.out.mono ?_
    rintro e w1 ⟨rfl, hb1⟩
    have h0 : Blk ((w.alloc (.cells #[.int .i64 op, .int .i64 dst, .int .i64 a, .int .i64 b, .int .i64 n] 28)).alloc (.cells #[.int .i64 0, .int .i64 0] 24)) (w.alloc (.cells #[.int .i64 op, .int .i64 dst, .int .i64 a, .int .i64 b, .int .i64 n] 28)).heap.size 24 #[.int .i64 0, .int .i64 0] := Blk.new _ _ _
    rw [World.size_alloc] at h0
    have hk1 := h0.below hb1 (by omega)
    have r0 := hk1.cell 0
    have r1 := hk1.cell 1
    have f0 := hk1.frozen 0
    have f1 := hk1.frozen 1
    have HK1 := Lib.hid hk1
    have HB1 : Hid (Below w.heap.size w w1) := Lib.hid ((((Below.refl _ _).alloc (Nat.le_refl _) _).alloc (by simp) _).trans (hb1.mono (by omega)))
    clear hb1 h0 hk1
    go_wp2_with fail
    refine end_tmp_cell rfl rfl (HK1.out.set2 _ _) Tryd.underlying24 rfl (by kernel_rfl) rfl ⟨_, rfl, ?_, (HB1.out.setCell (by simp) _).setCell (by simp) _⟩
    rw [HL.out]
    exact ints_nil _ _

set_option maxRecDepth 100000 in
set_option maxHeartbeats 2000000 in
theorem Writes_any (op dst a b n : Int) (w : World) (ht : Tab w) :
    Calls Tryd.prog 27 #[.agg #[.int .i64 op, .int .i64 dst, .int .i64 a, .int .i64 b, .int .i64 n]] w (RegsPost w (faultS ⟨op, dst, a, b, n⟩ 5000) (wrL ⟨op, dst, a, b, n⟩)) := by
  have HT := Lib.hid ht
  clear ht
  have start : Calls Tryd.prog 62 #[.agg #[.int .i64 op, .int .i64 dst, .int .i64 a, .int .i64 b, .int .i64 n], .int .i64 5000] ((w.alloc (.cells #[.int .i64 op, .int .i64 dst, .int .i64 a, .int .i64 b, .int .i64 n] 28)).alloc (.cells #[.int .i64 0, .int .i64 0] 24))
      fun e w' => e = .returned (.int .i64 (faultS ⟨op, dst, a, b, n⟩ 5000)) ∧ Below (w.heap.size + 2) ((w.alloc (.cells #[.int .i64 op, .int .i64 dst, .int .i64 a, .int .i64 b, .int .i64 n] 28)).alloc (.cells #[.int .i64 0, .int .i64 0] 24)) w' :=
    (fault_any op dst a b n 5000 _ ((HT.out.own ((Below.refl _ _).alloc (Nat.le_refl _) _)).own ((Below.refl _ _).alloc (Nat.le_refl _) _))).mono fun e w' h => ⟨h.1, by simpa using h.2⟩
  have HS := Lib.hid start
  clear start
  by_cases hf : faultS ⟨op, dst, a, b, n⟩ 5000 = 0
  · have hf0 : (faultS ⟨op, dst, a, b, n⟩ 5000 != 0) = false := by simp [hf]
    have Hf := Lib.hid hf
    have HR := Lib.hid (regs_of_fault _ _ hf).2
    have HL : Hid (wrL ⟨op, dst, a, b, n⟩ = listP (wrS ⟨op, dst, a, b, n⟩) 16) := Lib.hid (by unfold wrL; rw [if_pos hf])
    clear hf
    go_enter Tryd.func27, Tryd.ntmps27
    go_wp2_with fail
    refine HS.out.mono ?_
    rintro e w1 ⟨rfl, hb1⟩
    have hz : w.heap.size + 1 < w1.heap.size := by have := hb1.size; simp at this; omega
    have c0 : w1.cell? ⟨w.heap.size, 0, none⟩ = some (.int .i64 op) := by rw [bcell hb1 (by omega)]; simp [go_sem]
    have c1 : w1.cell? ⟨w.heap.size, 1, none⟩ = some (.int .i64 dst) := by rw [bcell hb1 (by omega)]; simp [go_sem]
    have c2 : w1.cell? ⟨w.heap.size, 2, none⟩ = some (.int .i64 a) := by rw [bcell hb1 (by omega)]; simp [go_sem]
    have c3 : w1.cell? ⟨w.heap.size, 3, none⟩ = some (.int .i64 b) := by rw [bcell hb1 (by omega)]; simp [go_sem]
    have c4 : w1.cell? ⟨w.heap.size, 4, none⟩ = some (.int .i64 n) := by rw [bcell hb1 (by omega)]; simp [go_sem]
    have HK1 : Hid (Blk w1 (w.heap.size + 1) 24 #[.int .i64 0, .int .i64 0]) := Lib.hid (by
      have h0 : Blk ((w.alloc (.cells #[.int .i64 op, .int .i64 dst, .int .i64 a, .int .i64 b, .int .i64 n] 28)).alloc (.cells #[.int .i64 0, .int .i64 0] 24)) (w.alloc (.cells #[.int .i64 op, .int .i64 dst, .int .i64 a, .int .i64 b, .int .i64 n] 28)).heap.size 24 #[.int .i64 0, .int .i64 0] := Blk.new _ _ _
      rw [World.size_alloc] at h0
      exact h0.below hb1 (by omega))
    have HB1 : Hid (Below w.heap.size w w1) := Lib.hid ((((Below.refl _ _).alloc (Nat.le_refl _) _).alloc (by simp) _).trans (hb1.mono (by omega)))
    clear hb1
    go_wp2_with fail
    refine (writes_any op dst a b n _ (HT.out.own HB1.out) HR.out).mono ?_
    rintro e w2 ⟨rfl, hb2⟩
    have HK2 := Lib.hid (HK1.out.below hb2 hz)
    have HB2 := Lib.hid (HB1.out.trans (hb2.mono HB1.out.size))
    have hz2 : w.heap.size + 1 < w2.heap.size := by have := hb2.size; omega
    clear hb2 c0 c1 c2 c3 c4
    go_wp2_with fail
    refine (list_any _ (wr_bits _ HR.out).1 _).mono ?_
    rintro e w3 ⟨v, rfl, ho, hb3⟩
    have hk3 := HK2.out.below hb3 hz2
    have r0 := hk3.cell 0
    have r1 := hk3.cell 1
    have f0 := hk3.frozen 0
    have f1 := hk3.frozen 1
    have HK3 := Lib.hid hk3
    have HB3 := Lib.hid (HB2.out.trans (hb3.mono HB2.out.size))
    have HO := Lib.hid ho
    clear hb3 hk3 ho
    go_wp2_with fail
    refine end_tmp_cell rfl rfl (HK3.out.set2 _ _) Tryd.underlying24 rfl (by kernel_rfl) rfl ⟨v, by rw [Hf.out]; rfl, ?_, (HB3.out.setCell (by simp) _).setCell (by simp) _⟩
    rw [HL.out, ← bitsTo_eq (wr_bits _ HR.out)]
    exact ((HO.out.set hz2 _).set hz2 _).ints
  · have hf0 : (faultS ⟨op, dst, a, b, n⟩ 5000 != 0) = true := by simp [hf]
    have HL : Hid (wrL ⟨op, dst, a, b, n⟩ = []) := Lib.hid (by unfold wrL; rw [if_neg hf])
    clear hf
    go_enter Tryd.func27, Tryd.ntmps27
    go_wp2_with fail
    refine HS.out.mono ?_
    rintro e w1 ⟨rfl, hb1⟩
    have h0 : Blk ((w.alloc (.cells #[.int .i64 op, .int .i64 dst, .int .i64 a, .int .i64 b, .int .i64 n] 28)).alloc (.cells #[.int .i64 0, .int .i64 0] 24)) (w.alloc (.cells #[.int .i64 op, .int .i64 dst, .int .i64 a, .int .i64 b, .int .i64 n] 28)).heap.size 24 #[.int .i64 0, .int .i64 0] := Blk.new _ _ _
    rw [World.size_alloc] at h0
    have hk1 := h0.below hb1 (by omega)
    have r0 := hk1.cell 0
    have r1 := hk1.cell 1
    have f0 := hk1.frozen 0
    have f1 := hk1.frozen 1
    have HK1 := Lib.hid hk1
    have HB1 : Hid (Below w.heap.size w w1) := Lib.hid ((((Below.refl _ _).alloc (Nat.le_refl _) _).alloc (by simp) _).trans (hb1.mono (by omega)))
    clear hb1 h0 hk1
    go_wp2_with fail
    refine end_tmp_cell rfl rfl (HK1.out.set2 _ _) Tryd.underlying24 rfl (by kernel_rfl) rfl ⟨_, rfl, ?_, (HB1.out.setCell (by simp) _).setCell (by simp) _⟩
    rw [HL.out]
    exact ints_nil _ _
end Go.Proofs.YtkecgobbklmeaaaDoor
