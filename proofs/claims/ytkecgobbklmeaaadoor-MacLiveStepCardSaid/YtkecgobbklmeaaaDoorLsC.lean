/-
  The law MacLiveStep walks to true.
  Conditions: the slice reads as numbers of Go's int, the register is one; the table shapes lies as its initialiser lays it.
-/
import Derived.Test.YtkecgobbklmeaaaDoorLsB
namespace Go.Proofs.YtkecgobbklmeaaaDoor
open Go.RowKit

set_option maxRecDepth 100000 in
set_option maxHeartbeats 4000000 in
theorem MacLiveStep_any (v : Value) (xs : List Int) (rz : Int) (w : World) (hv : IntsAt w w.heap.size v xs) (hx : ∀ x ∈ xs, I64 x) (hrz : I64 rz) (ht : Tab w) :
    Calls Tryd.prog 10 #[v, .int .i64 rz] w fun e w' => e = .returned (.bool true) ∧ Below w.heap.size w w' := by
  have HT := Lib.hid ht
  have Hrz := Lib.hid hrz
  have HCode := Lib.hid (CodeOf_any v xs 40 40 2 w rfl hv hx (by omega) (by omega) (by omega))
  have hok := codeOf_ok xs 40 2 (by omega) (by omega)
  have hlen := codeOf_len xs 40 2
  obtain ⟨r, hr⟩ : ∃ r : Nat, rz % 16 = r := ⟨(rz % 16).toNat, by omega⟩
  have hr16 : r < 16 := by omega
  have Hr := Lib.hid hr
  generalize codeOf xs 40 2 = ms at *
  have Hok : Hid ((checkS ms).1 = 0) := Lib.hid (by rw [hok])
  have HLv : Hid (liveL ms = liveTo ms ms.length) := Lib.hid (by unfold liveL; rw [if_pos Hok.out])
  have HAll := Lib.hid ((code_ok_iff ms).1 Hok.out).2.1
  have h41 : ms.length ≤ 41 := by omega
  clear hv hx ht hok hlen hr hrz
  go_enter Tryd.func10, Tryd.ntmps10
  go_wp2_with fail
  refine HCode.out.mono ?_
  rintro e w1 ⟨v1, rfl, ho1, hb1⟩
  have hlv := Live_any v1 ms w1 ho1.macs (HT.out.own hb1)
  rw [check_zero Hok.out, HLv.out] at hlv
  have HLive := Lib.hid hlv
  obtain ⟨A1, c1, hv1, hl1, h63, hcell⟩ := ho1.macs
  have HC := Lib.hid hcell
  have HB1 := Lib.hid hb1
  subst hv1
  obtain ⟨len, hlen⟩ : ∃ len, ms.length = len := ⟨_, rfl⟩
  have HL := Lib.hid hlen
  rw [hlen] at hl1 h63 HC h41 HAll HLive ⊢
  clear ho1 hb1 hcell hlen HCode hlv
  go_wp2_with fail
  refine HLive.out.mono ?_
  rintro e w2 ⟨v2, rfl, hrows, hb2⟩
  obtain ⟨A2, c2, hv2, hl2, h62, hrc⟩ := hrows
  rw [liveTo_len] at hv2 hl2 hrc
  subst hv2
  have HR := Lib.hid hrc
  have HB2 := Lib.hid hb2
  clear hrc hb2 HLive
  have hbne : ((len : Int) != (len : Int)) = false := by simp
  go_wp2_with fail
  refine (Picked_any rz 16 _ (by omega) (by omega) Hrz.out).mono ?_
  rintro e w' ⟨rfl, rfl⟩
  rw [Hr.out]
  go_wp2_with fail
  have HW2 : Hid (Below w2.heap.size w2 (w2.alloc (.cells #[.int .i64 0, .int .i64 0] 24))) := Lib.hid ((Below.refl _ _).alloc (Nat.le_refl _) _)
  generalize w2.alloc (.cells #[.int .i64 0, .int .i64 0] 24) = W2 at *
  go_loopw [9, 10] (fun u i wr => ∃ k : Nat, k ≤ len ∧ i = .int .i64 k ∧ u = .bool (usedTo ms r k) ∧ Hid (Below w2.heap.size w2 wr)) (fun _ i _ => len - (intOf i).toNat)
  case atStart => exact ⟨0, Nat.zero_le _, rfl, by simp [usedTo], HW2⟩
  case round =>
    obtain ⟨k, hk, rfl, rfl, HB⟩ := hrel
    have hz := HB.out.size
    by_cases hlt : k < len
    · obtain ⟨b, off, hA, hbw, hcc⟩ := HC.out (by omega)
      subst hA
      obtain ⟨b2, off2, hA2, hbw2, hrr⟩ := HR.out (by omega)
      subst hA2
      obtain ⟨⟨op, dst, a, b', n⟩, hm⟩ : ∃ m, ms[k]? = some m := ⟨ms[k]'(by rw [HL.out]; exact hlt), List.getElem?_eq_getElem _⟩
      have HCells : Hid (∀ W, Below w2.heap.size w2 W → MacAt W b (off + k * 5) ⟨op, dst, a, b', n⟩) := Lib.hid fun W hW => ((hcc k _ hm).below HB2.out hbw).below hW (by have := HB2.out.size; omega)
      have HRow : Hid (∀ (q : Nat), q < len → ∃ rv, IntsAt w2 w2.heap.size rv (listP (fun r => liveB ms r q) 16) ∧ ∀ W, Below w2.heap.size w2 W → W.cell? ⟨b2, off2 + q, none⟩ = some rv) := Lib.hid fun q hq => by
        obtain ⟨rv, h1, h2⟩ := hrr q (listP (fun r => liveB ms r q) 16) (by unfold liveTo; rw [List.getElem?_map, List.getElem?_range hq]; rfl)
        exact ⟨rv, h2, fun W hW => (bcell hW hbw2).trans h1⟩
      have hf := fault_more (many' := 5000) (HAll.out k _ hm) (by omega)
      have Hm := Lib.hid hm
      have HRd : Hid (∀ W, Tab W → Calls Tryd.prog 30 #[.agg #[.int .i64 op, .int .i64 dst, .int .i64 a, .int .i64 b', .int .i64 n]] W (RegsPost W 0 (listP (rdS ⟨op, dst, a, b', n⟩) 16))) := Lib.hid fun W hW => by
        have := Reads_any op dst a b' n W hW
        unfold rdL at this
        rwa [hf, if_pos rfl] at this
      have HWr : Hid (∀ W, Tab W → Calls Tryd.prog 27 #[.agg #[.int .i64 op, .int .i64 dst, .int .i64 a, .int .i64 b', .int .i64 n]] W (RegsPost W 0 (listP (wrS ⟨op, dst, a, b', n⟩) 16))) := Lib.hid fun W hW => by
        have := Writes_any op dst a b' n W hW
        unfold wrL at this
        rwa [hf, if_pos rfl] at this
      have HTab : Hid (∀ W, Below w2.heap.size w2 W → Tab W) := Lib.hid fun W hW => HT.out.own ((HB1.out.trans (HB2.out.mono HB1.out.size)).trans (hW.mono (Nat.le_trans HB1.out.size HB2.out.size)))
      obtain ⟨c0, c1', c2', c3, c4⟩ := HCells.out _ HB.out
      clear hcc hrr hm hf
      go_wp2_with fail
      refine (HRd.out _ (HTab.out _ HB.out)).mono ?_
      rintro e w3 ⟨v3, rfl, hi3, hb3⟩
      have HB3 := Lib.hid ((HB.out.trans (hb3.mono hz)).alloc (Nat.le_trans hz hb3.size) (.cells #[.int .i64 0, .int .i64 0] 24))
      have HI3 := Lib.hid (hi3.below ((Below.refl w3.heap.size w3).alloc (Nat.le_refl _) (.cells #[.int .i64 0, .int .i64 0] 24)) (Nat.le_refl _))
      have HK3 := Lib.hid (Blk.new w3 24 #[.int .i64 0, .int .i64 0])
      obtain ⟨c0, c1', c2', c3, c4⟩ := HCells.out _ HB3.out
      clear hi3 hb3
      go_wp2_with fail
      refine (HWr.out _ (HTab.out _ HB3.out)).mono ?_
      rintro e w4 ⟨v4, rfl, hi4, hb4⟩
      have hlt3 := HK3.out.lt
      have HB4 := Lib.hid ((HB3.out.trans (hb4.mono HB3.out.size)).alloc (Nat.le_trans HB3.out.size hb4.size) (.cells #[.int .i64 0, .int .i64 0] 24))
      have HI3 := Lib.hid (HI3.out.below (hb4.alloc hb4.size (.cells #[.int .i64 0, .int .i64 0] 24)) (by simp))
      have HI4 := Lib.hid (hi4.below ((Below.refl w4.heap.size w4).alloc (Nat.le_refl _) (.cells #[.int .i64 0, .int .i64 0] 24)) (Nat.le_refl _))
      have hk4 := HK3.out.below hb4 hlt3
      have q0 := hk4.cell 0
      have hlt4 := hk4.lt
      clear hi4 hb4 hk4
      go_wp2_with fail
      have hbI := HI4.out
      have HB5 := HB4
      have hWi : w4.heap.size < (w4.alloc (.cells #[.int .i64 0, .int .i64 0] 24)).heap.size := by simp
      generalize w4.alloc (.cells #[.int .i64 0, .int .i64 0] 24) = Wi at *
      clear hbI q0 c0 c1' c2' c3 c4
      go_loopw [15, 16] (fun bh q wr => ∃ q' : Nat, q' ≤ len ∧ q = .int .i64 q' ∧ bh = .bool (behindTo ms r k ⟨op, dst, a, b', n⟩ q') ∧ Hid (Below Wi.heap.size Wi wr)) (fun _ q _ => len - (intOf q).toNat)
      case atStart => exact ⟨0, Nat.zero_le _, rfl, by simp [behindTo], Lib.hid (Below.refl _ _)⟩
      case round =>
        obtain ⟨q, hq, rfl, rfl, HBi⟩ := hrel
        have HBw := Lib.hid (HB5.out.trans (HBi.out.mono HB5.out.size))
        by_cases hql : q < len
        · have hsucc := behindTo_succ ms r k ⟨op, dst, a, b', n⟩ q
          cases hb0 : behindTo ms r k ⟨op, dst, a, b', n⟩ q
          · rw [hb0, Bool.false_or] at hsucc
            go_wp2_with fail
            refine (Goes_any _ _ _ k q _ _ b off op dst a b' n _ rfl rfl rfl hlt (by omega) (HCells.out _ HBw.out)).mono ?_
            rintro e w6 ⟨rfl, hb6⟩
            have HB6 := Lib.hid (HBi.out.trans (hb6.mono HBi.out.size))
            have HBw6 := Lib.hid (HBw.out.trans (hb6.mono HBw.out.size))
            clear hb6
            cases hg : goB ⟨op, dst, a, b', n⟩ k q
            · rw [hg, Bool.false_and] at hsucc
              have HSu := Lib.hid hsucc
              clear hsucc hg hb0
              go_wp2_with fail
              go_roundw
              case rel => exact ⟨q + 1, by omega, by go_num, by rw [HSu.out], HB6⟩
              case measure => simp [intOf]; omega
            · rw [hg, Bool.true_and] at hsucc
              have HSu := Lib.hid hsucc
              obtain ⟨rv, hri, hrc⟩ := HRow.out q hql
              have cr := hrc _ HBw6.out
              have HRi := Lib.hid (hri.below HBw6.out (Nat.le_refl _))
              clear hsucc hg hb0 hri hrc
              go_wp2_with fail
              refine (hasInt_any rv _ (r : Int) _ _ HRi.out).mono ?_
              rintro e w' ⟨rfl, rfl⟩
              rw [hasB_list _ 16 r hr16, ← HSu.out]
              go_wp2_with fail
              go_roundw
              case rel => exact ⟨q + 1, by omega, by go_num, rfl, HB6⟩
              case measure => simp [intOf]; omega
          · rw [hb0, Bool.true_or] at hsucc
            have HSu := Lib.hid hsucc
            clear hsucc hb0
            go_wp2_with fail
            go_roundw
            case rel => exact ⟨q + 1, by omega, by go_num, by rw [HSu.out], HBi⟩
            case measure => simp [intOf]; omega
        · obtain rfl : q = len := by omega
          obtain ⟨rv, hri, hrc⟩ := HRow.out k hlt
          have cr := hrc _ HBw.out
          have hlb := live_behind ms r k _ Hm.out
          rw [HL.out] at hlb
          have H3 := hasInt_any v3 _ (r : Int) _ wr (HI3.out.below HBi.out (by omega))
          have H4 := hasInt_any v4 _ (r : Int) _ wr (HI4.out.below HBi.out (by omega))
          have H5 := hasInt_any rv _ (r : Int) _ wr (hri.below HBw.out (Nat.le_refl _))
          rw [hasB_list _ 16 r hr16] at H3 H4 H5
          have hus := usedTo_succ ms r k _ Hm.out
          clear hri hrc
          cases hU : usedTo ms r k <;> cases hRD : rdS ⟨op, dst, a, b', n⟩ r <;> cases hBH : behindTo ms r k ⟨op, dst, a, b', n⟩ q <;> cases hWR : wrS ⟨op, dst, a, b', n⟩ r
          all_goals
            rw [hRD, hBH, hWR] at hlb
            rw [hU, hRD] at hus
            rw [hRD] at H3
            rw [hWR] at H4
            simp at hlb hus
            rw [hlb] at H5
            have HUs := Lib.hid hus
            have HH3 := Lib.hid H3
            have HH4 := Lib.hid H4
            have HH5 := Lib.hid H5
            clear hus hlb H3 H4 H5 hU hRD hBH hWR
            go_wp2_with (first
              | (go_at_call_of 42 v3; refine HH3.out.mono ?_; rintro e w' ⟨rfl, rfl⟩)
              | (go_at_call_of 42 v4; refine HH4.out.mono ?_; rintro e w' ⟨rfl, rfl⟩)
              | (go_at_call_of 42 rv; refine HH5.out.mono ?_; rintro e w' ⟨rfl, rfl⟩))
            go_roundw
            case rel => exact ⟨k + 1, by omega, by go_num, by rw [HUs.out], HBw⟩
            case measure => simp [intOf]; omega
    · obtain rfl : k = len := by omega
      have HBf := Lib.hid ((HB1.out.trans (HB2.out.mono HB1.out.size)).trans (HB.out.mono (Nat.le_trans HB1.out.size HB2.out.size)))
      cases hU : usedTo ms r k
      · have hdead : ∀ i, liveB ms r i = false := fun i => live_unread ms r (fun m hm => by
          unfold usedTo at hU
          rw [List.take_of_length_le (by rw [HL.out]; exact Nat.le_refl _), List.any_eq_false] at hU
          simpa using hU m hm) i
        have HD := Lib.hid hdead
        clear hdead hU
        go_wp2_with fail
        obtain ⟨wo, hwo⟩ : ∃ wo : World, wo = wr := ⟨_, rfl⟩
        subst hwo
        go_loop [17] (fun i => ∃ j : Nat, j ≤ k ∧ i = .int .i64 j) (fun i => k - (intOf i).toNat)
        case atStart => exact ⟨0, Nat.zero_le _, rfl⟩
        case round =>
          obtain ⟨j, hj, rfl⟩ := hrel
          by_cases hjl : j < k
          · obtain ⟨b2, off2, hA2, hbw2, hrr⟩ := HR.out (by omega)
            subst hA2
            obtain ⟨rv, h1, h2⟩ := hrr j (listP (fun r => liveB ms r j) 16) (by unfold liveTo; rw [List.getElem?_map, List.getElem?_range hjl]; rfl)
            have cr := (bcell HB.out hbw2).trans h1
            have H5 := hasInt_any rv _ (r : Int) _ wo (h2.below HB.out (Nat.le_refl _))
            rw [hasB_list _ 16 r hr16, HD.out j] at H5
            have HH5 := Lib.hid H5
            clear H5 hrr h1 h2
            go_wp2_with fail
            refine HH5.out.mono ?_
            rintro e w' ⟨rfl, rfl⟩
            go_wp2_with fail
            go_round
            case rel => exact ⟨j + 1, by omega, by go_num⟩
            case measure => simp [intOf]; omega
          · obtain rfl : j = k := by omega
            go_wp2_with fail
            go_ret
            exact ⟨rfl, HBf.out⟩
      · clear hU
        go_wp2_with fail
        go_ret
        exact ⟨rfl, HBf.out⟩
end Go.Proofs.YtkecgobbklmeaaaDoor
