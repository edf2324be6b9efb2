/-
  Contracts of the reference's MacReads and MacWrites, and of same.Ints.
  Conditions: for same.Ints that both slices read as numbers.
-/
import Derived.Test.YtkecgobbklmeaaaDoorMacJ
import Derived.Test.YtkecgobbklmeaaaDoorMacK
namespace Go.Proofs.YtkecgobbklmeaaaDoor
open Go.RowKit

set_option maxRecDepth 100000 in
set_option maxHeartbeats 2000000 in
theorem MacReads_any (op dst a b n : Int) (w : World) :
    Calls Tryd.prog 31 #[.agg #[.int .i64 op, .int .i64 dst, .int .i64 a, .int .i64 b, .int .i64 n]] w (RegsPost w (faultS ⟨op, dst, a, b, n⟩ 5000) (rdL ⟨op, dst, a, b, n⟩)) := by
  obtain ⟨i0, hi, hz0, hz1, hz2⟩ := info_parts infoInt
  have start : Calls Tryd.prog 63 #[.agg #[.int .i64 op, .int .i64 dst, .int .i64 a, .int .i64 b, .int .i64 n], .int .i64 5000] ((w.alloc (.cells #[.int .i64 op, .int .i64 dst, .int .i64 a, .int .i64 b, .int .i64 n] 28)).alloc (.cells #[.int .i64 0, .int .i64 0] 24))
      fun e w' => e = .returned (.int .i64 (faultS ⟨op, dst, a, b, n⟩ 5000)) ∧ Below (w.heap.size + 2) ((w.alloc (.cells #[.int .i64 op, .int .i64 dst, .int .i64 a, .int .i64 b, .int .i64 n] 28)).alloc (.cells #[.int .i64 0, .int .i64 0] 24)) w' :=
    (macFault_any op dst a b n 5000 _).mono fun e w' h => ⟨h.1, by simpa using h.2⟩
  have HS := Lib.hid start
  clear start
  by_cases hf : faultS ⟨op, dst, a, b, n⟩ 5000 = 0
  · have hf0 : (faultS ⟨op, dst, a, b, n⟩ 5000 != 0) = false := by simp [hf]
    have Hf := Lib.hid hf
    have HL : Hid (rdL ⟨op, dst, a, b, n⟩ = listP (rdS ⟨op, dst, a, b, n⟩) 16) := Lib.hid (by unfold rdL; rw [if_pos hf])
    clear hf
    go_enter Tryd.func31, Tryd.ntmps31
    go_wp2_with fail
    refine HS.out.mono ?_
    rintro e w1 ⟨rfl, hb1⟩
    have hz : w.heap.size + 1 < w1.heap.size := by have := hb1.size; simp at this; omega
    have c0 : w1.cell? ⟨w.heap.size, 0, none⟩ = some (.int .i64 op) := by rw [bcell hb1 (by omega)]; simp [go_sem]
    have c1 : w1.cell? ⟨w.heap.size, 1, none⟩ = some (.int .i64 dst) := by rw [bcell hb1 (by omega)]; simp [go_sem]
    have c2 : w1.cell? ⟨w.heap.size, 2, none⟩ = some (.int .i64 a) := by rw [bcell hb1 (by omega)]; simp [go_sem]
    have c3 : w1.cell? ⟨w.heap.size, 3, none⟩ = some (.int .i64 b) := by rw [bcell hb1 (by omega)]; simp [go_sem]
    have c4 : w1.cell? ⟨w.heap.size, 4, none⟩ = some (.int .i64 n) := by rw [bcell hb1 (by omega)]; simp [go_sem]
    have HC := Lib.hid (And.intro c0 (And.intro c1 (And.intro c2 (And.intro c3 c4))))
    clear c0 c1 c2 c3 c4
    have HK1 : Hid (Blk w1 (w.heap.size + 1) 24 #[.int .i64 0, .int .i64 0]) := Lib.hid (by
      have h0 : Blk ((w.alloc (.cells #[.int .i64 op, .int .i64 dst, .int .i64 a, .int .i64 b, .int .i64 n] 28)).alloc (.cells #[.int .i64 0, .int .i64 0] 24)) (w.alloc (.cells #[.int .i64 op, .int .i64 dst, .int .i64 a, .int .i64 b, .int .i64 n] 28)).heap.size 24 #[.int .i64 0, .int .i64 0] := Blk.new _ _ _
      rw [World.size_alloc] at h0
      exact h0.below hb1 (by omega))
    have HB1 : Hid (Below w.heap.size w w1) := Lib.hid ((((Below.refl _ _).alloc (Nat.le_refl _) _).alloc (by simp) _).trans (hb1.mono (by omega)))
    clear hb1
    go_wp2_with fail
    go_loopw [5, 6] (fun v i wr => ∃ k : Nat, k ≤ 16 ∧ i = .int .i64 k ∧ Hid (Below (w.heap.size + 2) w1 wr) ∧ Hid (OwnInts wr (w.heap.size + 2) v (listP (rdS ⟨op, dst, a, b, n⟩) k))) (fun _ i _ => 16 - (intOf i).toNat)
    case atStart => exact ⟨0, Nat.zero_le _, rfl, Lib.hid (Below.refl _ _), Lib.hid (OwnInts.nil _ _)⟩
    case round =>
      obtain ⟨k, hk, rfl, HB, HO⟩ := hrel
      have Hs := Lib.hid (listP_succ (rdS ⟨op, dst, a, b, n⟩) k)
      have hlen := listP_len (rdS ⟨op, dst, a, b, n⟩) k
      have hzr : w.heap.size + 1 < wr.heap.size := by have := HB.out.size; omega
      by_cases hlt : k < 16
      · have d0 : wr.cell? ⟨w.heap.size, 0, none⟩ = some (.int .i64 op) := (bcell HB.out (by omega)).trans HC.out.1
        have d1 : wr.cell? ⟨w.heap.size, 1, none⟩ = some (.int .i64 dst) := (bcell HB.out (by omega)).trans HC.out.2.1
        have d2 : wr.cell? ⟨w.heap.size, 2, none⟩ = some (.int .i64 a) := (bcell HB.out (by omega)).trans HC.out.2.2.1
        have d3 : wr.cell? ⟨w.heap.size, 3, none⟩ = some (.int .i64 b) := (bcell HB.out (by omega)).trans HC.out.2.2.2.1
        have d4 : wr.cell? ⟨w.heap.size, 4, none⟩ = some (.int .i64 n) := (bcell HB.out (by omega)).trans HC.out.2.2.2.2
        by_cases hb : rdS ⟨op, dst, a, b, n⟩ k = true
        · have Hb := Lib.hid hb
          clear hb
          go_wp2_with fail
          refine (macReads_any op dst a b n k wr).mono ?_
          rintro e w2 ⟨he, hb2⟩
          rw [Hb.out] at he
          subst he
          have HB2 := Lib.hid (HB.out.trans (hb2.mono hzr))
          have HO2 := Lib.hid (HO.out.below hb2 rfl)
          have hz2' : w.heap.size + 1 < w2.heap.size := by have := hb2.size; omega
          clear hb2 d0 d1 d2 d3 d4
          go_wp2_with (at_builtin; refine wpList_append_own _ rfl _ _ 29 rfl (w.heap.size + 2) 3 i0 (.int .i64 0) 1 8 Tryd.underlying29 hi hz0 hz1 hz2 rfl (by decide) _ _ _ rfl (HO2.out.alloc _) ⟨w2.heap.size, 0, none⟩ 1 1 [.int .i64 (k : Int)] rfl rfl (cell_one_new _ _ _) (fun x hx => by simp at hx; subst hx; rfl) (by unfold maxLen; omega) (by omega) (by simp; omega) ?_; intro v' w3 hown' hgrow3 hnil3; have HO' := Lib.hid hown'; have HG' := Lib.hid hgrow3; clear hown' hgrow3 hnil3)
          go_roundw
          case rel =>
            refine ⟨k + 1, by omega, by go_num, Lib.hid ((HB2.out.alloc hz2' _).grown HG'.out (by simp; omega) (own_block_ge HO2.out)), Lib.hid ?_⟩
            rw [Hs.out, if_pos Hb.out]
            unfold OwnInts
            rw [List.length_append, List.map_append]
            exact HO'.out
          case measure => simp [intOf]; omega
        · have Hb := Lib.hid hb
          have Hb' : Hid (rdS ⟨op, dst, a, b, n⟩ k = false) := Lib.hid (by simpa using hb)
          clear hb
          go_wp2_with fail
          refine (macReads_any op dst a b n k wr).mono ?_
          rintro e w2 ⟨he, hb2⟩
          rw [Hb'.out] at he
          subst he
          have HB2 := Lib.hid (HB.out.trans (hb2.mono hzr))
          have HO2 := Lib.hid (HO.out.below hb2 rfl)
          clear hb2 d0 d1 d2 d3 d4
          go_wp2_with fail
          go_roundw
          case rel => exact ⟨k + 1, by omega, by go_num, HB2, Lib.hid (by rw [Hs.out, if_neg Hb.out]; exact HO2.out)⟩
          case measure => simp [intOf]; omega
      · obtain rfl : k = 16 := by omega
        have hk3 := HK1.out.below HB.out (by omega)
        have r0 := hk3.cell 0
        have r1 := hk3.cell 1
        have f0 := hk3.frozen 0
        have f1 := hk3.frozen 1
        have HK3 := Lib.hid hk3
        have HB3 := Lib.hid (HB1.out.trans (HB.out.mono (by omega)))
        clear hk3
        go_wp2_with fail
        refine end_tmp_cell rfl rfl (HK3.out.set2 _ _) Tryd.underlying24 rfl (by kernel_rfl) rfl ⟨_, by rw [Hf.out], ?_, (HB3.out.setCell (by simp) _).setCell (by simp) _⟩
        rw [HL.out]
        exact ((HO.out.set (by omega) _).set (by omega) _).ints
  · have hf0 : (faultS ⟨op, dst, a, b, n⟩ 5000 != 0) = true := by simp [hf]
    have HL : Hid (rdL ⟨op, dst, a, b, n⟩ = []) := Lib.hid (by unfold rdL; rw [if_neg hf])
    clear hf
    go_enter Tryd.func31, Tryd.ntmps31
    go_wp2_with fail
    refine HS.out.mono ?_
    rintro e w1 ⟨rfl, hb1⟩
    have h0 : Blk ((w.alloc (.cells #[.int .i64 op, .int .i64 dst, .int .i64 a, .int .i64 b, .int .i64 n] 28)).alloc (.cells #[.int .i64 0, .int .i64 0] 24)) (w.alloc (.cells #[.int .i64 op, .int .i64 dst, .int .i64 a, .int .i64 b, .int .i64 n] 28)).heap.size 24 #[.int .i64 0, .int .i64 0] := Blk.new _ _ _
    rw [World.size_alloc] at h0
    have hk1 := h0.below hb1 (by omega)
    have r0 := hk1.cell 0
    have r1 := hk1.cell 1
    have f0 := hk1.frozen 0
    have f1 := hk1.frozen 1
    have HK1 := Lib.hid hk1
    have HB1 : Hid (Below w.heap.size w w1) := Lib.hid ((((Below.refl _ _).alloc (Nat.le_refl _) _).alloc (by simp) _).trans (hb1.mono (by omega)))
    clear hb1 h0 hk1
    go_wp2_with fail
    refine end_tmp_cell rfl rfl (HK1.out.set2 _ _) Tryd.underlying24 rfl (by kernel_rfl) rfl ⟨_, rfl, ?_, (HB1.out.setCell (by simp) _).setCell (by simp) _⟩
    rw [HL.out]
    exact ints_nil _ _

set_option maxRecDepth 100000 in
set_option maxHeartbeats 2000000 in
theorem MacWrites_any (op dst a b n : Int) (w : World) :
    Calls Tryd.prog 28 #[.agg #[.int .i64 op, .int .i64 dst, .int .i64 a, .int .i64 b, .int .i64 n]] w (RegsPost w (faultS ⟨op, dst, a, b, n⟩ 5000) (wrL ⟨op, dst, a, b, n⟩)) := by
  obtain ⟨i0, hi, hz0, hz1, hz2⟩ := info_parts infoInt
  have start : Calls Tryd.prog 63 #[.agg #[.int .i64 op, .int .i64 dst, .int .i64 a, .int .i64 b, .int .i64 n], .int .i64 5000] ((w.alloc (.cells #[.int .i64 op, .int .i64 dst, .int .i64 a, .int .i64 b, .int .i64 n] 28)).alloc (.cells #[.int .i64 0, .int .i64 0] 24))
      fun e w' => e = .returned (.int .i64 (faultS ⟨op, dst, a, b, n⟩ 5000)) ∧ Below (w.heap.size + 2) ((w.alloc (.cells #[.int .i64 op, .int .i64 dst, .int .i64 a, .int .i64 b, .int .i64 n] 28)).alloc (.cells #[.int .i64 0, .int .i64 0] 24)) w' :=
    (macFault_any op dst a b n 5000 _).mono fun e w' h => ⟨h.1, by simpa using h.2⟩
  have HS := Lib.hid start
  clear start
  by_cases hf : faultS ⟨op, dst, a, b, n⟩ 5000 = 0
  · have hf0 : (faultS ⟨op, dst, a, b, n⟩ 5000 != 0) = false := by simp [hf]
    have Hf := Lib.hid hf
    have HL : Hid (wrL ⟨op, dst, a, b, n⟩ = listP (wrS ⟨op, dst, a, b, n⟩) 16) := Lib.hid (by unfold wrL; rw [if_pos hf])
    clear hf
    go_enter Tryd.func28, Tryd.ntmps28
    go_wp2_with fail
    refine HS.out.mono ?_
    rintro e w1 ⟨rfl, hb1⟩
    have hz : w.heap.size + 1 < w1.heap.size := by have := hb1.size; simp at this; omega
    have c0 : w1.cell? ⟨w.heap.size, 0, none⟩ = some (.int .i64 op) := by rw [bcell hb1 (by omega)]; simp [go_sem]
    have c1 : w1.cell? ⟨w.heap.size, 1, none⟩ = some (.int .i64 dst) := by rw [bcell hb1 (by omega)]; simp [go_sem]
    have c2 : w1.cell? ⟨w.heap.size, 2, none⟩ = some (.int .i64 a) := by rw [bcell hb1 (by omega)]; simp [go_sem]
    have c3 : w1.cell? ⟨w.heap.size, 3, none⟩ = some (.int .i64 b) := by rw [bcell hb1 (by omega)]; simp [go_sem]
    have c4 : w1.cell? ⟨w.heap.size, 4, none⟩ = some (.int .i64 n) := by rw [bcell hb1 (by omega)]; simp [go_sem]
    have HC := Lib.hid (And.intro c0 (And.intro c1 (And.intro c2 (And.intro c3 c4))))
    clear c0 c1 c2 c3 c4
    have HK1 : Hid (Blk w1 (w.heap.size + 1) 24 #[.int .i64 0, .int .i64 0]) := Lib.hid (by
      have h0 : Blk ((w.alloc (.cells #[.int .i64 op, .int .i64 dst, .int .i64 a, .int .i64 b, .int .i64 n] 28)).alloc (.cells #[.int .i64 0, .int .i64 0] 24)) (w.alloc (.cells #[.int .i64 op, .int .i64 dst, .int .i64 a, .int .i64 b, .int .i64 n] 28)).heap.size 24 #[.int .i64 0, .int .i64 0] := Blk.new _ _ _
      rw [World.size_alloc] at h0
      exact h0.below hb1 (by omega))
    have HB1 : Hid (Below w.heap.size w w1) := Lib.hid ((((Below.refl _ _).alloc (Nat.le_refl _) _).alloc (by simp) _).trans (hb1.mono (by omega)))
    clear hb1
    go_wp2_with fail
    go_loopw [5, 6] (fun v i wr => ∃ k : Nat, k ≤ 16 ∧ i = .int .i64 k ∧ Hid (Below (w.heap.size + 2) w1 wr) ∧ Hid (OwnInts wr (w.heap.size + 2) v (listP (wrS ⟨op, dst, a, b, n⟩) k))) (fun _ i _ => 16 - (intOf i).toNat)
    case atStart => exact ⟨0, Nat.zero_le _, rfl, Lib.hid (Below.refl _ _), Lib.hid (OwnInts.nil _ _)⟩
    case round =>
      obtain ⟨k, hk, rfl, HB, HO⟩ := hrel
      have Hs := Lib.hid (listP_succ (wrS ⟨op, dst, a, b, n⟩) k)
      have hlen := listP_len (wrS ⟨op, dst, a, b, n⟩) k
      have hzr : w.heap.size + 1 < wr.heap.size := by have := HB.out.size; omega
      by_cases hlt : k < 16
      · have d0 : wr.cell? ⟨w.heap.size, 0, none⟩ = some (.int .i64 op) := (bcell HB.out (by omega)).trans HC.out.1
        have d1 : wr.cell? ⟨w.heap.size, 1, none⟩ = some (.int .i64 dst) := (bcell HB.out (by omega)).trans HC.out.2.1
        have d2 : wr.cell? ⟨w.heap.size, 2, none⟩ = some (.int .i64 a) := (bcell HB.out (by omega)).trans HC.out.2.2.1
        have d3 : wr.cell? ⟨w.heap.size, 3, none⟩ = some (.int .i64 b) := (bcell HB.out (by omega)).trans HC.out.2.2.2.1
        have d4 : wr.cell? ⟨w.heap.size, 4, none⟩ = some (.int .i64 n) := (bcell HB.out (by omega)).trans HC.out.2.2.2.2
        by_cases hb : wrS ⟨op, dst, a, b, n⟩ k = true
        · have Hb := Lib.hid hb
          clear hb
          go_wp2_with fail
          refine (macWrites_any op dst a b n k wr).mono ?_
          rintro e w2 ⟨he, hb2⟩
          rw [Hb.out] at he
          subst he
          have HB2 := Lib.hid (HB.out.trans (hb2.mono hzr))
          have HO2 := Lib.hid (HO.out.below hb2 rfl)
          have hz2' : w.heap.size + 1 < w2.heap.size := by have := hb2.size; omega
          clear hb2 d0 d1 d2 d3 d4
          go_wp2_with (at_builtin; refine wpList_append_own _ rfl _ _ 29 rfl (w.heap.size + 2) 3 i0 (.int .i64 0) 1 8 Tryd.underlying29 hi hz0 hz1 hz2 rfl (by decide) _ _ _ rfl (HO2.out.alloc _) ⟨w2.heap.size, 0, none⟩ 1 1 [.int .i64 (k : Int)] rfl rfl (cell_one_new _ _ _) (fun x hx => by simp at hx; subst hx; rfl) (by unfold maxLen; omega) (by omega) (by simp; omega) ?_; intro v' w3 hown' hgrow3 hnil3; have HO' := Lib.hid hown'; have HG' := Lib.hid hgrow3; clear hown' hgrow3 hnil3)
          go_roundw
          case rel =>
            refine ⟨k + 1, by omega, by go_num, Lib.hid ((HB2.out.alloc hz2' _).grown HG'.out (by simp; omega) (own_block_ge HO2.out)), Lib.hid ?_⟩
            rw [Hs.out, if_pos Hb.out]
            unfold OwnInts
            rw [List.length_append, List.map_append]
            exact HO'.out
          case measure => simp [intOf]; omega
        · have Hb := Lib.hid hb
          have Hb' : Hid (wrS ⟨op, dst, a, b, n⟩ k = false) := Lib.hid (by simpa using hb)
          clear hb
          go_wp2_with fail
          refine (macWrites_any op dst a b n k wr).mono ?_
          rintro e w2 ⟨he, hb2⟩
          rw [Hb'.out] at he
          subst he
          have HB2 := Lib.hid (HB.out.trans (hb2.mono hzr))
          have HO2 := Lib.hid (HO.out.below hb2 rfl)
          clear hb2 d0 d1 d2 d3 d4
          go_wp2_with fail
          go_roundw
          case rel => exact ⟨k + 1, by omega, by go_num, HB2, Lib.hid (by rw [Hs.out, if_neg Hb.out]; exact HO2.out)⟩
          case measure => simp [intOf]; omega
      · obtain rfl : k = 16 := by omega
        have hk3 := HK1.out.below HB.out (by omega)
        have r0 := hk3.cell 0
        have r1 := hk3.cell 1
        have f0 := hk3.frozen 0
        have f1 := hk3.frozen 1
        have HK3 := Lib.hid hk3
        have HB3 := Lib.hid (HB1.out.trans (HB.out.mono (by omega)))
        clear hk3
        go_wp2_with fail
        refine end_tmp_cell rfl rfl (HK3.out.set2 _ _) Tryd.underlying24 rfl (by kernel_rfl) rfl ⟨_, by rw [Hf.out], ?_, (HB3.out.setCell (by simp) _).setCell (by simp) _⟩
        rw [HL.out]
        exact ((HO.out.set (by omega) _).set (by omega) _).ints
  · have hf0 : (faultS ⟨op, dst, a, b, n⟩ 5000 != 0) = true := by simp [hf]
    have HL : Hid (wrL ⟨op, dst, a, b, n⟩ = []) := Lib.hid (by unfold wrL; rw [if_neg hf])
    clear hf
    go_enter Tryd.func28, Tryd.ntmps28
    go_wp2_with fail
    refine HS.out.mono ?_
    rintro e w1 ⟨rfl, hb1⟩
    have h0 : Blk ((w.alloc (.cells #[.int .i64 op, .int .i64 dst, .int .i64 a, .int .i64 b, .int .i64 n] 28)).alloc (.cells #[.int .i64 0, .int .i64 0] 24)) (w.alloc (.cells #[.int .i64 op, .int .i64 dst, .int .i64 a, .int .i64 b, .int .i64 n] 28)).heap.size 24 #[.int .i64 0, .int .i64 0] := Blk.new _ _ _
    rw [World.size_alloc] at h0
    have hk1 := h0.below hb1 (by omega)
    have r0 := hk1.cell 0
    have r1 := hk1.cell 1
    have f0 := hk1.frozen 0
    have f1 := hk1.frozen 1
    have HK1 := Lib.hid hk1
    have HB1 : Hid (Below w.heap.size w w1) := Lib.hid ((((Below.refl _ _).alloc (Nat.le_refl _) _).alloc (by simp) _).trans (hb1.mono (by omega)))
    clear hb1 h0 hk1
    go_wp2_with fail
    refine end_tmp_cell rfl rfl (HK1.out.set2 _ _) Tryd.underlying24 rfl (by kernel_rfl) rfl ⟨_, rfl, ?_, (HB1.out.setCell (by simp) _).setCell (by simp) _⟩
    rw [HL.out]
    exact ints_nil _ _
end Go.Proofs.YtkecgobbklmeaaaDoor
