/-
  Contracts of mac.Next and mac.live: the sets of live registers.
  Conditions: the slice reads as instructions that may stand; the table shapes lies as its initialiser lays it.
-/
import Derived.Test.YtkecgobbklmeaaaDoorLiQ
import Derived.Test.YtkecgobbklmeaaaDoorByF
import Derived.Deep.RegionHeld3
import Derived.Deep.DrawnRows
namespace Go.Proofs.YtkecgobbklmeaaaDoor
open Go.RowKit

set_option maxRecDepth 100000 in
set_option maxHeartbeats 1000000 in
theorem Next_any (c n i : Nat) (b off : Nat) (op dst a b' nn : Int) (w : World) (ht : Tab w) (hi : i < n) (hn : n ≤ 5000) (hm : MacAt w b (off + i * 5) ⟨op, dst, a, b', nn⟩) :
    Calls Tryd.prog 91 #[.slice (some ⟨b, off, none⟩) n c, .int .i64 i] w fun e w' => ∃ v, e = .returned v ∧ OwnInts w' w.heap.size v (nextL ⟨op, dst, a, b', nn⟩ i) ∧ Below w.heap.size w w' := by
  obtain ⟨c0, c1, c2, c3, c4⟩ := hm
  have HT := Lib.hid (ht.own ((Below.refl w.heap.size w).alloc (Nat.le_refl _) (.cells #[.int .i64 op, .int .i64 dst, .int .i64 a, .int .i64 b', .int .i64 nn] 28)))
  clear ht
  have hend : ∀ (W : World) (xs : List Int), Below w.heap.size w W → xs.length ≤ 10 → OwnInts (W.alloc (.cells (xs.map (Value.int .i64)).toArray 3)) w.heap.size (.slice (some ⟨W.heap.size, 0, none⟩) xs.length xs.length) xs := by
    intro W xs hW hl
    have := World.ownsRow_lit (base := w.heap.size) (e := 3) (size := 1) W (xs.map (Value.int .i64)).toArray xs.length hW.size (by unfold maxLen; omega) (by simp)
    simpa [OwnInts] using this
  have HEnd := Lib.hid hend
  clear hend
  by_cases h45 : op = 45
  · have HE : Hid (nextL ⟨op, dst, a, b', nn⟩ i = []) := Lib.hid (by unfold nextL; rw [if_pos h45])
    have e1 : (op == 45) = true := by simp [h45]
    clear h45
    go_enter Tryd.func91, Tryd.ntmps91
    go_wp2_with fail
    refine (Of_any _ _ HT.out).mono ?_
    rintro e w1 ⟨rfl, hb1⟩
    have hz : w.heap.size < w1.heap.size := by have := hb1.size; simp at this; omega
    have hk1 := (Blk.new w 28 #[.int .i64 op, .int .i64 dst, .int .i64 a, .int .i64 b', .int .i64 nn]).below hb1 (by simp)
    have r0 := hk1.cell 0
    have HB1 : Hid (Below w.heap.size w w1) := Lib.hid (((Below.refl _ _).alloc (Nat.le_refl _) _).trans (hb1.mono (by simp)))
    clear hb1 hk1
    go_wp2_with fail
    go_ret
    refine ⟨_, rfl, ?_, HB1.out.alloc (by omega) _⟩
    rw [HE.out]
    exact OwnInts.nil _ _
  have e1 : (op == 45) = false := by simp [h45]
  by_cases h37 : op = 37
  · have HE : Hid (nextL ⟨op, dst, a, b', nn⟩ i = [nn]) := Lib.hid (by unfold nextL; rw [if_neg h45, if_pos h37])
    have e2 : (op == 37) = true := by simp [h37]
    clear h45 h37
    go_enter Tryd.func91, Tryd.ntmps91
    go_wp2_with fail
    refine (Of_any _ _ HT.out).mono ?_
    rintro e w1 ⟨rfl, hb1⟩
    have hz : w.heap.size < w1.heap.size := by have := hb1.size; simp at this; omega
    have hk1 := (Blk.new w 28 #[.int .i64 op, .int .i64 dst, .int .i64 a, .int .i64 b', .int .i64 nn]).below hb1 (by simp)
    have r0 := hk1.cell 0
    have r4 := hk1.cell 4
    have HB1 : Hid (Below w.heap.size w w1) := Lib.hid (((Below.refl _ _).alloc (Nat.le_refl _) _).trans (hb1.mono (by simp)))
    clear hb1 hk1
    go_wp2_with fail
    go_ret
    have HB2 := HB1.out.alloc (Nat.le_of_lt hz) (.cells #[.bool (shD op), .bool (shA op), .bool (shB op), .int .i64 (shK op)] 118)
    refine ⟨_, rfl, ?_, HB2.alloc (by simp; omega) _⟩
    rw [HE.out]
    have := HEnd.out _ [nn] HB2 (by simp)
    simpa using this
  have e2 : (op == 37) = false := by simp [h37]
  by_cases h2 : shK op = 2
  · have HE : Hid (nextL ⟨op, dst, a, b', nn⟩ i = [(i : Int) + 1, nn]) := Lib.hid (by unfold nextL; rw [if_neg h45, if_neg h37, if_pos h2])
    have e3 : (shK op == 2) = true := by simp [h2]
    clear h45 h37 h2
    go_enter Tryd.func91, Tryd.ntmps91
    go_wp2_with fail
    refine (Of_any _ _ HT.out).mono ?_
    rintro e w1 ⟨rfl, hb1⟩
    have hz : w.heap.size < w1.heap.size := by have := hb1.size; simp at this; omega
    have hk1 := (Blk.new w 28 #[.int .i64 op, .int .i64 dst, .int .i64 a, .int .i64 b', .int .i64 nn]).below hb1 (by simp)
    have r0 := hk1.cell 0
    have r4 := hk1.cell 4
    have HB1 : Hid (Below w.heap.size w w1) := Lib.hid (((Below.refl _ _).alloc (Nat.le_refl _) _).trans (hb1.mono (by simp)))
    clear hb1 hk1
    go_wp2_with fail
    go_ret
    have HB2 := HB1.out.alloc (Nat.le_of_lt hz) (.cells #[.bool (shD op), .bool (shA op), .bool (shB op), .int .i64 (shK op)] 118)
    refine ⟨_, rfl, ?_, HB2.alloc (by simp; omega) _⟩
    rw [HE.out]
    have := HEnd.out _ [(i : Int) + 1, nn] HB2 (by simp)
    simpa using this
  · have HE : Hid (nextL ⟨op, dst, a, b', nn⟩ i = [(i : Int) + 1]) := Lib.hid (by unfold nextL; rw [if_neg h45, if_neg h37, if_neg h2])
    have e3 : (shK op == 2) = false := by simp [h2]
    clear h45 h37 h2
    go_enter Tryd.func91, Tryd.ntmps91
    go_wp2_with fail
    refine (Of_any _ _ HT.out).mono ?_
    rintro e w1 ⟨rfl, hb1⟩
    have hz : w.heap.size < w1.heap.size := by have := hb1.size; simp at this; omega
    have hk1 := (Blk.new w 28 #[.int .i64 op, .int .i64 dst, .int .i64 a, .int .i64 b', .int .i64 nn]).below hb1 (by simp)
    have r0 := hk1.cell 0
    have r4 := hk1.cell 4
    have HB1 : Hid (Below w.heap.size w w1) := Lib.hid (((Below.refl _ _).alloc (Nat.le_refl _) _).trans (hb1.mono (by simp)))
    clear hb1 hk1
    go_wp2_with fail
    go_ret
    have HB2 := HB1.out.alloc (Nat.le_of_lt hz) (.cells #[.bool (shD op), .bool (shA op), .bool (shB op), .int .i64 (shK op)] 118)
    refine ⟨_, rfl, ?_, HB2.alloc (by simp; omega) _⟩
    rw [HE.out]
    have := HEnd.out _ [(i : Int) + 1] HB2 (by simp)
    simpa using this
end Go.Proofs.YtkecgobbklmeaaaDoor
