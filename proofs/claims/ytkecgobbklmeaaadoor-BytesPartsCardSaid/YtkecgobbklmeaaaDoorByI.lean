/-
  Contract of the reference's BytesCode; the law BytesCodeSays walks to true.
  Conditions: the slice reads as instructions of Go's numbers; the table shapes lies as its initialiser lays it.
-/
import Derived.Test.YtkecgobbklmeaaaDoorByH
namespace Go.Proofs.YtkecgobbklmeaaaDoor
open Go.RowKit

set_option maxRecDepth 100000 in
set_option maxHeartbeats 2000000 in
theorem BytesCode_any (v : Value) (ms : List Mac) (w : World) (hv : MacsAt w w.heap.size v ms) (hi : ∀ m ∈ ms, m.ok) :
    Calls Tryd.prog 36 #[v] w (BytesPost w (checkS ms) (codeL ms)) := by
  have HV := Lib.hid hv
  have HI := Lib.hid hi
  have hA : Below w.heap.size w (w.alloc (.cells #[.int .i64 0, .int .i64 0] 24)) := (Below.refl _ _).alloc (Nat.le_refl _) _
  have HC := Lib.hid (MacCheck_any v ms (w.alloc (.cells #[.int .i64 0, .int .i64 0] 24)) ((HV.out.below hA (Nat.le_refl _)).more (by simp)))
  clear hv hi hA
  by_cases hf : (checkS ms).1 = 0
  · have hf0 : ((checkS ms).1 != 0) = false := by simp [hf]
    have Hf := Lib.hid hf
    have HW := Lib.hid (writes_of_check hf HI.out)
    have HZ : Hid (checkS ms = (0, 0)) := Lib.hid (check_zero hf)
    clear hf
    go_enter Tryd.func36, Tryd.ntmps36
    go_wp2_with fail
    refine HC.out.mono ?_
    rintro e w1 ⟨rfl, hb1⟩
    have hz : w.heap.size < w1.heap.size := by have := hb1.size; simp at this; omega
    have h0 := (Blk.new w 24 #[.int .i64 0, .int .i64 0]).below hb1 (by simp)
    have HK1 := Lib.hid (h0.alloc (.cells #[.int .i64 (checkS ms).1, .int .i64 (checkS ms).2] 24))
    have HB1 : Hid (Below w.heap.size w (w1.alloc (.cells #[.int .i64 (checkS ms).1, .int .i64 (checkS ms).2] 24))) := Lib.hid ((((Below.refl _ _).alloc (Nat.le_refl _) _).trans (hb1.mono (by simp))).alloc (by omega) _)
    clear hb1 h0
    go_wp2_with fail
    generalize w1.alloc (.cells #[.int .i64 (checkS ms).1, .int .i64 (checkS ms).2] 24) = W1 at *
    refine (CodeBytes_any v ms _ ((HV.out.below HB1.out (Nat.le_refl _)).more HB1.out.size) HW.out.2 HW.out.1).mono ?_
    rintro e w2 ⟨v2, rfl, ho, hb2⟩
    have hk2 := HK1.out.below hb2 HK1.out.lt
    have r0 := hk2.cell 0
    have r1 := hk2.cell 1
    have f0 := hk2.frozen 0
    have f1 := hk2.frozen 1
    have HK2 := Lib.hid hk2
    have HB2 := Lib.hid (HB1.out.trans (hb2.mono HB1.out.size))
    have HO := Lib.hid ho
    have hz2 : w.heap.size < W1.heap.size := HK1.out.lt
    clear hb2 hk2 ho
    go_wp2_with fail
    refine end_tmp_cell rfl rfl (HK2.out.set2 _ _) Tryd.underlying24 rfl (by kernel_rfl) rfl ⟨v2, by rw [HZ.out]; rfl, ?_, (HB2.out.setCell (by simp) _).setCell (by simp) _⟩
    unfold codeL
    rw [if_pos Hf.out]
    exact OwnB.bytes (ownsRow_setCell_below (a := ⟨w.heap.size, 1, none⟩) (ownsRow_setCell_below (a := ⟨w.heap.size, 0, none⟩) HO.out hz2 _) hz2 _)
  · have hf0 : ((checkS ms).1 != 0) = true := by simp [hf]
    have HL : Hid (codeL ms = []) := Lib.hid (by unfold codeL; rw [if_neg hf])
    clear hf
    go_enter Tryd.func36, Tryd.ntmps36
    go_wp2_with fail
    refine HC.out.mono ?_
    rintro e w1 ⟨rfl, hb1⟩
    have hz : w.heap.size < w1.heap.size := by have := hb1.size; simp at this; omega
    have h0 := (Blk.new w 24 #[.int .i64 0, .int .i64 0]).below hb1 (by simp)
    have r0 := h0.cell 0
    have r1 := h0.cell 1
    have f0 := h0.frozen 0
    have f1 := h0.frozen 1
    have HB1 : Hid (Below w.heap.size w w1) := Lib.hid (((Below.refl _ _).alloc (Nat.le_refl _) _).trans (hb1.mono (by simp)))
    have HK1 := Lib.hid h0
    clear hb1 h0
    go_wp2_with fail
    go_region
    all_goals
      go_wp2_with fail
      refine end_tmp_cell rfl rfl (Blk.alloc (HK1.out.set2 _ _) _) Tryd.underlying24 rfl (by kernel_rfl) rfl ⟨_, rfl, ?_, below_drew (Below.alloc (((HB1.out.setCell (by simp) _).setCell (by simp) _)) (by simp; omega) _)⟩
      rw [HL.out]
      exact BAt.nil _ _

set_option maxRecDepth 100000 in
set_option maxHeartbeats 2000000 in
theorem BytesCodeSays_any (v : Value) (ms : List Mac) (w : World) (hv : MacsAt w w.heap.size v ms) (ht : Tab w) (hi : ∀ m ∈ ms, m.ok) :
    Calls Tryd.prog 8 #[v] w fun e w' => e = .returned (.bool true) ∧ Below w.heap.size w w' := by
  have HV := Lib.hid hv
  have HT := Lib.hid ht
  have HI := Lib.hid hi
  clear hv ht hi
  go_enter Tryd.func8, Tryd.ntmps8
  go_wp2_with fail
  refine (Code_any v ms _ HV.out HT.out HI.out).mono ?_
  rintro e w1 ⟨v1, rfl, hr1, hb1⟩
  have HA1 : Hid (Below w.heap.size w (w1.alloc (.cells #[.int .i64 (checkS ms).1, .int .i64 (checkS ms).2] 24))) := Lib.hid (hb1.alloc hb1.size _)
  have HK1 : Hid (Blk (w1.alloc (.cells #[.int .i64 (checkS ms).1, .int .i64 (checkS ms).2] 24)) w1.heap.size 24 #[.int .i64 (checkS ms).1, .int .i64 (checkS ms).2]) := Lib.hid (Blk.new _ _ _)
  have HR1 : Hid (BAt (w1.alloc (.cells #[.int .i64 (checkS ms).1, .int .i64 (checkS ms).2] 24)) w1.heap.size v1 (codeL ms)) := Lib.hid (hr1.below ((Below.refl w1.heap.size _).alloc (Nat.le_refl _) _) (Nat.le_refl _))
  clear hb1 hr1
  go_wp2_with fail
  generalize hW : w1.alloc (.cells #[.int .i64 (checkS ms).1, .int .i64 (checkS ms).2] 24) = W1 at *
  clear hW
  refine (BytesCode_any v ms _ ((HV.out.below HA1.out (Nat.le_refl _)).more HA1.out.size) HI.out).mono ?_
  rintro e w2 ⟨v2, rfl, hr2, hb2⟩
  have hlt := HK1.out.lt
  have HA2 : Hid (Below w.heap.size w (w2.alloc (.cells #[.int .i64 (checkS ms).1, .int .i64 (checkS ms).2] 24))) := Lib.hid ((HA1.out.trans (hb2.mono HA1.out.size)).alloc (Nat.le_trans HA1.out.size hb2.size) _)
  have hx1 := conv_bytes (HR1.out.below (hb2.alloc hb2.size (.cells #[.int .i64 (checkS ms).1, .int .i64 (checkS ms).2] 24)) (Nat.le_of_lt hlt))
  have hx2 := conv_bytes (hr2.below ((Below.refl w2.heap.size _).alloc (Nat.le_refl _) (.cells #[.int .i64 (checkS ms).1, .int .i64 (checkS ms).2] 24)) (Nat.le_refl _))
  have hk2 := HK1.out.below hb2 hlt
  have hlt2 := hk2.lt
  have r0 := hk2.cell 0
  have r1 := hk2.cell 1
  have hs : ((strOfNums (codeL ms)).toList == (strOfNums (codeL ms)).toList) = true := by simp
  clear hr2 hb2 hk2
  go_wp2_with fail
  go_ret
  exact ⟨ret_bool (by simp), HA2.out⟩
end Go.Proofs.YtkecgobbklmeaaaDoor
