/-
  The law BytesFixed walks to true.
  Conditions: the bytes are bytes; the table shapes lies as its initialiser lays it.
-/
import Derived.Test.YtliampeaecgagaaDoorRdL
namespace Go.Proofs.YtliampeaecgagaaDoor
open Go.RowKit

def retM : Mac := ⟨45, 0, 0, 0, 0⟩
theorem ret_ok : checkS [retM] = (0, 0) := by
  apply check_zero
  rw [code_ok_iff]
  refine ⟨by simp, fun j m hm => ?_, retM, rfl, .inr rfl⟩
  match j, hm with
  | 0, hm =>
    cases hm
    decide +kernel
theorem ret_code : codeL [retM] = [45] := by unfold codeL; rw [ret_ok, if_pos rfl]; decide +kernel
theorem ret_i64 : ∀ m ∈ [retM], m.ok := by
  intro m hm
  rw [List.mem_singleton.1 hm]
  refine ⟨?_, ?_, ?_, ?_, ?_⟩ <;> (unfold I64 retM; simp)
theorem macs_one (w : World) (m : Mac) : MacsAt (w.alloc (.cells m.cells.toArray 36)) (w.heap.size + 1) (.slice (some ⟨w.heap.size, 0, none⟩) 1 1) [m] := by
  have := macs_of_cells (ms := [m]) (c := 1) (off := 0) (Blk.new w 36 m.cells.toArray) (fun j u hu => by rw [Nat.zero_add]; simpa [cellsS] using hu) (by simp) (by simp)
  simpa using this

set_option maxRecDepth 100000 in
set_option maxHeartbeats 2000000 in
theorem BytesFixed_any (v : Value) (bs : List Int) (w : World) (hv : BAt w w.heap.size v bs) (hbs : BytesOk bs) (ht : Tab w) :
    Calls Tryd.prog 5 #[v] w fun e w' => e = .returned (.bool true) ∧ Below w.heap.size w w' := by
  have HV := Lib.hid hv
  have HT := Lib.hid ht
  have HBs := Lib.hid hbs
  clear hv ht hbs
  go_enter Tryd.func5, Tryd.ntmps5
  go_wp2_with fail
  refine (Read_any v bs _ HV.out HBs.out HT.out).mono ?_
  rintro e w1 ⟨v1, rfl, hm1, hb1⟩
  have HA1 : Hid (Below w.heap.size w (w1.alloc (.cells #[.int .i64 (readL bs).1.1, .int .i64 (readL bs).1.2] 25))) := Lib.hid (hb1.alloc hb1.size _)
  have HK1 : Hid (Blk (w1.alloc (.cells #[.int .i64 (readL bs).1.1, .int .i64 (readL bs).1.2] 25)) w1.heap.size 25 #[.int .i64 (readL bs).1.1, .int .i64 (readL bs).1.2]) := Lib.hid (Blk.new _ _ _)
  have HR1 : Hid (MacsAt (w1.alloc (.cells #[.int .i64 (readL bs).1.1, .int .i64 (readL bs).1.2] 25)) w1.heap.size v1 (readL bs).2) := Lib.hid (hm1.below ((Below.refl w1.heap.size _).alloc (Nat.le_refl _) _) (Nat.le_refl _))
  clear hb1 hm1
  obtain ⟨f1, f2, ms, hrd⟩ : ∃ f1 f2 ms, readL bs = ((f1, f2), ms) := ⟨_, _, _, rfl⟩
  have Hrd := Lib.hid hrd
  rw [hrd] at HA1 HK1 HR1 ⊢
  clear hrd
  simp only at HA1 HK1 HR1 ⊢
  have HAb := Lib.hid (HA1.out.alloc HA1.out.size (.cells #[.int .i64 45, .int .i64 0, .int .i64 0, .int .i64 0, .int .i64 0] 36))
  have HK2 := Lib.hid (HK1.out.alloc (.cells #[.int .i64 45, .int .i64 0, .int .i64 0, .int .i64 0, .int .i64 0] 36))
  have HR2 := Lib.hid (HR1.out.below ((Below.refl w1.heap.size _).alloc (by simp) (.cells #[.int .i64 45, .int .i64 0, .int .i64 0, .int .i64 0, .int .i64 0] 36)) (Nat.le_refl _))
  have hone : MacsAt ((w1.alloc (.cells #[.int .i64 f1, .int .i64 f2] 25)).alloc (.cells #[.int .i64 45, .int .i64 0, .int .i64 0, .int .i64 0, .int .i64 0] 36)) ((w1.alloc (.cells #[.int .i64 f1, .int .i64 f2] 25)).alloc (.cells #[.int .i64 45, .int .i64 0, .int .i64 0, .int .i64 0, .int .i64 0] 36)).heap.size (.slice (some ⟨w1.heap.size + 1, 0, none⟩) 1 1) [retM] := by
    have := macs_one (w1.alloc (.cells #[.int .i64 f1, .int .i64 f2] 25)) retM
    simp only [World.size_alloc] at this ⊢
    exact this
  have hcall := Code_any _ [retM] _ hone (HT.out.own HAb.out) ret_i64
  rw [ret_ok, ret_code] at hcall
  have HCall := Lib.hid hcall
  clear hcall hone
  go_wp2_with fail
  generalize (w1.alloc (.cells #[.int .i64 f1, .int .i64 f2] 25)).alloc (.cells #[.int .i64 45, .int .i64 0, .int .i64 0, .int .i64 0, .int .i64 0] 36) = W2 at *
  clear HA1 HK1 HR1
  refine HCall.out.mono ?_
  rintro e w3 ⟨v3, rfl, hb3, hbl3⟩
  obtain ⟨A3, c3, hv3, _, _, _⟩ := hb3
  subst hv3
  have HA3 := Lib.hid ((HAb.out.trans (hbl3.mono HAb.out.size)).alloc (Nat.le_trans HAb.out.size hbl3.size) (.cells #[.int .i64 0, .int .i64 0] 25))
  have hk3 := (HK2.out.below hbl3 HK2.out.lt).alloc (.cells #[.int .i64 0, .int .i64 0] 25)
  have hkn := Blk.new w3 25 #[.int .i64 0, .int .i64 0]
  have hlt2 := HK2.out.lt
  have HR3 := Lib.hid (HR2.out.below (hbl3.alloc hbl3.size (.cells #[.int .i64 0, .int .i64 0] 25)) (Nat.le_of_lt hlt2))
  have hz3 : w1.heap.size ≤ (w3.alloc (.cells #[.int .i64 0, .int .i64 0] 25)).heap.size := by have := hbl3.size; simp; omega
  have q0 := hkn.cell 0
  have k0 := hk3.cell 0
  clear hbl3 hk3 hkn
  by_cases hf : f1 = 0
  · subst hf
    have hback := readL_back HBs.out (by rw [Hrd.out])
    rw [Hrd.out] at hback
    simp only at hback
    obtain ⟨_, hck, hcl, hfi, _⟩ := hback
    have hcall := Code_any v1 ms _ (HR3.out.more hz3) (HT.out.own HA3.out) (fun m hm => fine_ok (hfi m hm))
    rw [check_zero hck, hcl] at hcall
    have HCall2 := Lib.hid hcall
    clear hcall hck hcl hfi
    go_wp2_with fail
    generalize w3.alloc (.cells #[.int .i64 0, .int .i64 0] 25) = W3 at *
    refine HCall2.out.mono ?_
    rintro e w4 ⟨v4, rfl, hb4, hbl4⟩
    have HA4 := Lib.hid ((HA3.out.trans (hbl4.mono HA3.out.size)).alloc (Nat.le_trans HA3.out.size hbl4.size) (.cells #[.int .i64 0, .int .i64 0] 25))
    have hx1 := conv_bytes ((HV.out.below HA4.out (Nat.le_refl _)))
    have hx2 := conv_bytes (hb4.below ((Below.refl w4.heap.size _).alloc (Nat.le_refl _) (.cells #[.int .i64 0, .int .i64 0] 25)) (Nat.le_refl _))
    have hk4 := Blk.new w4 25 #[.int .i64 0, .int .i64 0]
    have p0 := hk4.cell 0
    have hs : ((strOfNums bs).toList == (strOfNums bs).toList) = true := by simp
    clear hb4 hbl4 hk4
    go_wp2_with fail
    go_ret
    exact ⟨ret_bool (by simp), HA4.out⟩
  · have hempty := readL_fault (bs := bs) (by rw [Hrd.out]; exact hf)
    rw [Hrd.out] at hempty
    simp only at hempty
    subst hempty
    obtain ⟨A1, c1, hv1, _⟩ := HR3.out
    subst hv1
    have hf0 : (f1 != 0) = true := by simp [hf]
    clear hf
    go_wp2_with fail
    go_ret
    exact ⟨ret_bool (by simp), HA3.out⟩
end Go.Proofs.YtliampeaecgagaaDoor
