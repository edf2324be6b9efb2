/-
  The laws BytesReadSays and BytesFixed walk to true.
  Conditions: the bytes are bytes; the table shapes lies as its initialiser lays it.
-/
import Derived.Test.YtliampeaecgagaaDoorRdJ
import Derived.Test.YtliampeaecgagaaDoorRdK
namespace Go.Proofs.YtliampeaecgagaaDoor
open Go.RowKit

set_option maxRecDepth 100000 in
set_option maxHeartbeats 1000000 in
theorem BytesReadSays_any (v : Value) (bs : List Int) (w : World) (hv : BAt w w.heap.size v bs) (hbs : BytesOk bs) (ht : Tab w) :
    Calls Tryd.prog 3 #[v] w fun e w' => e = .returned (.bool true) ∧ Below w.heap.size w w' := by
  have HV := Lib.hid hv
  have HT := Lib.hid ht
  have HBs := Lib.hid hbs
  clear hv ht hbs
  go_enter Tryd.func3, Tryd.ntmps3
  go_wp2_with fail
  refine (Read_any v bs _ HV.out HBs.out HT.out).mono ?_
  rintro e w1 ⟨v1, rfl, hm1, hb1⟩
  have HA1 : Hid (Below w.heap.size w (w1.alloc (.cells #[.int .i64 (readL bs).1.1, .int .i64 (readL bs).1.2] 25))) := Lib.hid (hb1.alloc hb1.size _)
  have HK1 : Hid (Blk (w1.alloc (.cells #[.int .i64 (readL bs).1.1, .int .i64 (readL bs).1.2] 25)) w1.heap.size 25 #[.int .i64 (readL bs).1.1, .int .i64 (readL bs).1.2]) := Lib.hid (Blk.new _ _ _)
  have HR1 : Hid (MacsAt (w1.alloc (.cells #[.int .i64 (readL bs).1.1, .int .i64 (readL bs).1.2] 25)) w1.heap.size v1 (readL bs).2) := Lib.hid (hm1.below ((Below.refl w1.heap.size _).alloc (Nat.le_refl _) _) (Nat.le_refl _))
  clear hb1 hm1
  go_wp2_with fail
  generalize hW : w1.alloc (.cells #[.int .i64 (readL bs).1.1, .int .i64 (readL bs).1.2] 25) = W1 at *
  clear hW
  refine (BytesRead_any v bs _ ((HV.out.below HA1.out (Nat.le_refl _)).more HA1.out.size) HBs.out).mono ?_
  rintro e w2 ⟨v2, rfl, hm2, hb2⟩
  have hlt := HK1.out.lt
  have HA2 : Hid (Below w.heap.size w (w2.alloc (.cells #[.int .i64 (readL bs).1.1, .int .i64 (readL bs).1.2] 25))) := Lib.hid ((HA1.out.trans (hb2.mono HA1.out.size)).alloc (Nat.le_trans HA1.out.size hb2.size) _)
  have HK2 := Lib.hid ((HK1.out.below hb2 hlt).alloc (.cells #[.int .i64 (readL bs).1.1, .int .i64 (readL bs).1.2] 25))
  have HN2 : Hid (Blk (w2.alloc (.cells #[.int .i64 (readL bs).1.1, .int .i64 (readL bs).1.2] 25)) w2.heap.size 25 #[.int .i64 (readL bs).1.1, .int .i64 (readL bs).1.2]) := Lib.hid (Blk.new _ _ _)
  have HR2 := Lib.hid ((HR1.out.below (hb2.alloc hb2.size (.cells #[.int .i64 (readL bs).1.1, .int .i64 (readL bs).1.2] 25)) (Nat.le_of_lt hlt)).more (show w1.heap.size ≤ (w2.alloc (.cells #[.int .i64 (readL bs).1.1, .int .i64 (readL bs).1.2] 25)).heap.size by have := hb2.size; simp; omega))
  have HR3 := Lib.hid ((hm2.below ((Below.refl w2.heap.size _).alloc (Nat.le_refl _) (.cells #[.int .i64 (readL bs).1.1, .int .i64 (readL bs).1.2] 25)) (Nat.le_refl _)).more (show w2.heap.size ≤ (w2.alloc (.cells #[.int .i64 (readL bs).1.1, .int .i64 (readL bs).1.2] 25)).heap.size by simp))
  clear hm2 hb2
  go_wp2_with fail
  generalize hW : w2.alloc (.cells #[.int .i64 (readL bs).1.1, .int .i64 (readL bs).1.2] 25) = W2 at *
  clear hW
  refine (SameMacs_any v1 v2 _ _ _ HR2.out HR3.out).mono ?_
  rintro e w3 ⟨rfl, hb3⟩
  have hk3 := HK2.out.below hb3 HK2.out.lt
  have hn3 := HN2.out.below hb3 HN2.out.lt
  have r0 := hk3.cell 0
  have r1 := hk3.cell 1
  have q0 := hn3.cell 0
  have q1 := hn3.cell 1
  have HA3 := Lib.hid (HA2.out.trans (hb3.mono HA2.out.size))
  have hd : decide ((readL bs).2 = (readL bs).2) = true := by simp
  rw [hd]
  clear hk3 hn3 hb3 hd
  go_wp2_with fail
  go_ret
  exact ⟨ret_bool (by simp), HA3.out⟩
end Go.Proofs.YtliampeaecgagaaDoor
