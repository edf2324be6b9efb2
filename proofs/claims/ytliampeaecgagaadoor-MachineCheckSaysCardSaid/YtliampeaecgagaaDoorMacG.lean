/-
  Contract of the reference's MacCheck: it tells checkS of the list, as mac.Check does.
  Conditions: the slice reads as instructions.
-/
import Derived.Test.YtliampeaecgagaaDoorMacF
namespace Go.Proofs.YtliampeaecgagaaDoor
open Go.RowKit

set_option maxRecDepth 100000 in
set_option maxHeartbeats 2000000 in
theorem MacCheck_any (v : Value) (ms : List Mac) (w : World) (hv : MacsAt w w.heap.size v ms) :
    Calls Tryd.prog 46 #[v] w fun e w' => e = .returned (.agg #[.int .i64 (checkS ms).1, .int .i64 (checkS ms).2]) ∧ Below w.heap.size w w' := by
  have HM := Lib.hid hv
  obtain ⟨A, c, rfl, h1, h2, h3⟩ := hv
  have HR := Lib.hid h3
  clear h3
  by_cases hmany : 5000 < ms.length
  · have Hc := Lib.hid (checkS_many ms hmany)
    go_enter Tryd.func46, Tryd.ntmps46
    go_wp2
    exact bodyPost_ret (v := .agg #[.int .i64 2, .int .i64 0]) (by simp [results, Tryd.results46, go_sem]) rfl ⟨ret_agg2 Hc.out, (Below.refl _ _).alloc (Nat.le_refl _) _⟩
  by_cases hnil : ms.length = 0
  · have Hc : Hid (checkS ms = (5, 0)) := Lib.hid (by rw [List.eq_nil_of_length_eq_zero hnil]; rfl)
    have hb : ((ms.length : Int) == 0) = true := by simp [hnil]
    clear hnil
    go_enter Tryd.func46, Tryd.ntmps46
    go_wp2
    exact bodyPost_ret (v := .agg #[.int .i64 5, .int .i64 0]) (by simp [results, Tryd.results46, go_sem]) rfl ⟨ret_agg2 Hc.out, (Below.refl _ _).alloc (Nat.le_refl _) _⟩
  obtain ⟨b, off, rfl, hbw, hcell⟩ := HR.out (by omega)
  have hl5 : ms.length ≤ 5000 := by omega
  have hpos : 0 < ms.length := by omega
  have HC := Lib.hid hcell
  have hb0 : ((ms.length : Int) == 0) = false := beq_eq_false_iff_ne.2 (by omega)
  clear hnil hmany hcell HR
  obtain ⟨len, hlen⟩ : ∃ len, ms.length = len := ⟨_, rfl⟩
  have HL := Lib.hid hlen
  rw [hlen] at h1 h2 hl5 hpos hb0 ⊢
  clear hlen
  go_enter Tryd.func46, Tryd.ntmps46
  go_wp2
  go_loopw [3] (fun i wr => ∃ k : Nat, k ≤ len ∧ i = .int .i64 k ∧ Hid (∀ (j : Nat) (m' : Mac), j < k → ms[j]? = some m' → faultS m' (len : Int) = 0) ∧ Below w.heap.size w wr ∧ Blk wr w.heap.size 25 #[.int .i64 0, .int .i64 0]) (fun i _ => len - (intOf i).toNat)
  case atStart => exact ⟨0, Nat.zero_le _, rfl, Lib.hid (fun j _ h => absurd h (Nat.not_lt_zero j)), (Below.refl _ _).alloc (Nat.le_refl _) _, Blk.new _ _ _⟩
  case round =>
    obtain ⟨k, hk, rfl, HF, hb, hblk⟩ := hrel
    by_cases hlt : k < len
    · obtain ⟨⟨op, dst, a, b', n⟩, hm⟩ : ∃ m, ms[k]? = some m := ⟨ms[k]'(by rw [HL.out]; exact hlt), List.getElem?_eq_getElem _⟩
      obtain ⟨c0, c1, c2, c3, c4⟩ := (HC.out k _ hm).below hb hbw
      have Hm := Lib.hid hm
      clear hm
      have HB := Lib.hid hb
      have HK := Lib.hid hblk
      clear hb hblk
      by_cases hf : faultS ⟨op, dst, a, b', n⟩ (len : Int) = 0
      · have hf0 : (faultS ⟨op, dst, a, b', n⟩ (len : Int) != 0) = false := by simp [hf]
        have Hf := Lib.hid hf
        clear hf
        go_wp2_with (go_at_call 69; refine (macFault_any _ _ _ _ _ _ _).mono ?_; rintro e w2 ⟨rfl, hb2⟩)
        go_roundw
        case rel =>
          refine ⟨k + 1, by omega, by go_num, Lib.hid fun j m' hj hm' => ?_, HB.out.trans (hb2.mono HB.out.size), HK.out.below hb2 HK.out.lt⟩
          rcases Nat.lt_or_ge j k with h | h
          · exact HF.out j m' h hm'
          · obtain rfl : j = k := by omega
            rw [Hm.out] at hm'
            cases hm'
            exact Hf.out
        case measure => simp [intOf]; omega
      · have hf0 : (faultS ⟨op, dst, a, b', n⟩ (len : Int) != 0) = true := by simp [hf]
        have Hc : Hid (checkS ms = (faultS ⟨op, dst, a, b', n⟩ (len : Int), (k : Int))) := Lib.hid (by
          have := checkS_bad ms k _ (by rw [HL.out]; exact hl5) Hm.out (by rw [HL.out]; exact hf) (by rw [HL.out]; exact HF.out)
          rwa [HL.out] at this)
        clear hf
        go_wp2_with fail
        refine (macFault_any _ _ _ _ _ _ _).mono ?_
        rintro e w2 ⟨rfl, hb2⟩
        have hk2 := HK.out.below hb2 HK.out.lt
        have r0 := hk2.cell 0
        have r1 := hk2.cell 1
        have f0 := hk2.frozen 0
        have f1 := hk2.frozen 1
        have hBl : Hid (Below w.heap.size w w2) := Lib.hid (HB.out.trans (hb2.mono HB.out.size))
        have HK2 := Lib.hid hk2
        clear hb2 hk2
        go_wp2_with fail
        exact end_cell rfl rfl (HK2.out.set2 _ _) Tryd.underlying25 rfl (by kernel_rfl) rfl ⟨ret_agg2 Hc.out, (hBl.out.setCell (Nat.le_refl _) _).setCell (Nat.le_refl _) _⟩
    · have hk' : k = len := by omega
      subst hk'
      obtain ⟨⟨op, dst, a, b', n⟩, hm⟩ : ∃ m, ms[k - 1]? = some m := ⟨ms[k - 1]'(by rw [HL.out]; omega), List.getElem?_eq_getElem _⟩
      obtain ⟨c0, c1, c2, c3, c4⟩ := (HC.out _ _ hm).below hb hbw
      have Hc := Lib.hid (checkS_end ms _ (by rw [HL.out]; exact hl5) (by
        intro j m' hj
        have hlt' : j < k := by have := (List.getElem?_eq_some_iff.1 hj).1; rw [HL.out] at this; exact this
        rw [HL.out]; exact HF.out j m' hlt' hj) (by rw [HL.out]; exact hm))
      have Hm := Lib.hid hm
      have r0 := hblk.cell 0
      have r1 := hblk.cell 1
      have f0 := hblk.frozen 0
      have f1 := hblk.frozen 1
      have HB := Lib.hid hb
      have HK := Lib.hid hblk
      clear hm hb hblk c1 c2 c3 c4
      by_cases h37 : op = 37 ∨ op = 45
      · have Hc' : Hid (checkS ms = (0, 0)) := Lib.hid (by rw [Hc.out, if_pos h37])
        clear Hc
        rcases (by omega : op = 37 ∨ (op ≠ 37 ∧ op = 45)) with h | ⟨h, h'⟩
        · subst h
          go_wp2_with fail
          exact end_cell rfl rfl (HK.out.set2 _ _) Tryd.underlying25 rfl (by kernel_rfl) rfl ⟨ret_agg2 Hc'.out, (HB.out.setCell (Nat.le_refl _) _).setCell (Nat.le_refl _) _⟩
        · subst h'
          go_wp2_with fail
          exact end_cell rfl rfl (HK.out.set2 _ _) Tryd.underlying25 rfl (by kernel_rfl) rfl ⟨ret_agg2 Hc'.out, (HB.out.setCell (Nat.le_refl _) _).setCell (Nat.le_refl _) _⟩
      · have e1 : (op != 37) = true := by simp; omega
        have e2 : (op != 45) = true := by simp; omega
        have Hc' : Hid (checkS ms = (5, (k : Int) - 1)) := Lib.hid (by rw [Hc.out, if_neg h37, HL.out])
        clear h37 Hc
        go_wp2_with fail
        exact end_cell rfl rfl (HK.out.set2 _ _) Tryd.underlying25 rfl (by kernel_rfl) rfl ⟨ret_agg2 Hc'.out, (HB.out.setCell (Nat.le_refl _) _).setCell (Nat.le_refl _) _⟩
end Go.Proofs.YtliampeaecgagaaDoor
