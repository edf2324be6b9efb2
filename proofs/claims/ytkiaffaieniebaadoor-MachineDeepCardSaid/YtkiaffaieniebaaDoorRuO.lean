/-
  The law MachineDeep walks to true.
  Conditions: the number is one of Go's int; the table shapes lies as its initialiser lays it.
-/
import Derived.Test.YtkiaffaieniebaaDoorRuN
namespace Go.Proofs.YtkiaffaieniebaaDoor
open Go.RowKit

/-- What a run of 400 steps says. -/
theorem deep_call_x (k : Nat) (hk : k < 30) (gv rv iv : Value) (w : World) (hg : GlobsAt w w.heap.size gv kGlobs) (hr : RoutsAt w w.heap.size rv [⟨mainB, codeL deepC⟩]) (hi : IntsAt w w.heap.size iv (List.replicate k 1 ++ [0])) (ht : Tab w) :
    Calls Tryd.prog 14 #[.agg #[gv, rv], iv, .int .i64 400] w fun e w' => ∃ vz A n c, e = .returned (.tuple #[.agg #[.int .i64 0, .int .i64 vz, .slice A n c, .int .i64 ((4 * k + 3 : Nat) : Int)], .agg #[.int .i64 0, .int .i64 0]]) ∧ Below w.heap.size w w' := by
  have hcall := Run_any gv rv iv kGlobs [⟨mainB, codeL deepC⟩] (List.replicate k 1 ++ [0]) 400 w hg hr hi kGlobs_ok (alone_rok deep_ok deep_i64) ht
  obtain ⟨q1, q2, _⟩ := alone_run (inp := List.replicate k 1 ++ [0]) (fuel := 400) deep_ok deep_i64 deep_far (by simp; omega) (by omega)
  rw [show ((400 : Nat) : Int) = 400 from rfl] at q1 q2
  obtain ⟨v, e1, e2, e3, e4⟩ := deep_run [5, 0, 0] k hk
  rw [q1, q2, e1, show v.told = v by unfold Mch.told; rw [if_pos e2]] at hcall
  refine hcall.mono ?_
  rintro e w' ⟨ov, rfl, ho, hb⟩
  obtain ⟨A, c, rfl⟩ := row_form ho
  exact ⟨v.value, A, v.out.length, c, by rw [e3, e4], hb⟩
theorem deep_call_y (gv rv : Value) (w : World) (hg : GlobsAt w w.heap.size gv kGlobs) (hr : RoutsAt w w.heap.size rv [⟨mainB, codeL deepC⟩]) (ht : Tab w) :
    Calls Tryd.prog 14 #[.agg #[gv, rv], .slice none 0 0, .int .i64 400] w fun e w' => ∃ vz A n c, e = .returned (.tuple #[.agg #[.int .i64 4, .int .i64 vz, .slice A n c, .int .i64 90], .agg #[.int .i64 0, .int .i64 0]]) ∧ Below w.heap.size w w' := by
  have hcall := Run_any gv rv (.slice none 0 0) kGlobs [⟨mainB, codeL deepC⟩] [] 400 w hg hr ⟨none, 0, rfl, by simp, by omega, fun h => by simp at h⟩ kGlobs_ok (alone_rok deep_ok deep_i64) ht
  obtain ⟨q1, q2, _⟩ := alone_run (inp := []) (fuel := 400) deep_ok deep_i64 deep_far (by simp) (by omega)
  rw [show ((400 : Nat) : Int) = 400 from rfl] at q1 q2
  obtain ⟨v, e1, e2, e3, e4⟩ := deep_over [5, 0, 0]
  rw [q1, q2, e1, show v.told = v by unfold Mch.told; rw [if_pos e2]] at hcall
  refine hcall.mono ?_
  rintro e w' ⟨ov, rfl, ho, hb⟩
  obtain ⟨A, c, rfl⟩ := row_form ho
  exact ⟨v.value, A, v.out.length, c, by rw [e3, e4]; rfl, hb⟩
set_option maxRecDepth 100000 in
set_option maxHeartbeats 2000000 in
theorem MachineDeep_any (n : Int) (w : World) (hn : I64 n) (ht : Tab w) : Calls Tryd.prog 4 #[.int .i64 n] w fun e w' => e = .returned (.bool true) ∧ Below w.heap.size w w' := by
  obtain ⟨k, hk⟩ : ∃ k : Nat, n % 30 = k := ⟨(n % 30).toNat, by omega⟩
  have hk30 : k < 30 := by omega
  have Hk := Lib.hid hk
  have Hn := Lib.hid hn
  have HT := Lib.hid ht
  have HA : Hid (Below w.heap.size w (w.alloc (.cells (cellsS deepC).toArray 24))) := Lib.hid ((Below.refl _ _).alloc (Nat.le_refl _) _)
  have HW := Lib.hid (macs_lit (n := 4) (Blk.new w 24 (cellsS deepC).toArray) (ms := deepC) rfl rfl (by decide))
  have hcl : (cellsS deepC).toArray = #[.int .i64 46, .int .i64 0, .int .i64 0, .int .i64 0, .int .i64 0, .int .i64 39, .int .i64 0, .int .i64 0, .int .i64 0, .int .i64 3, .int .i64 44, .int .i64 0, .int .i64 0, .int .i64 0, .int .i64 0, .int .i64 45, .int .i64 0, .int .i64 0, .int .i64 0, .int .i64 0] := rfl
  rw [hcl] at HA HW
  clear hk hn ht hcl
  go_enter Tryd.func4, Tryd.ntmps4
  go_wp2_with fail
  refine (Picked_any n 30 _ (by omega) (by omega) Hn.out).mono ?_
  rintro e w' ⟨rfl, rfl⟩
  rw [Hk.out]
  go_upto_region 5 with fail
  generalize w.alloc (.cells #[.int .i64 46, .int .i64 0, .int .i64 0, .int .i64 0, .int .i64 0, .int .i64 39, .int .i64 0, .int .i64 0, .int .i64 0, .int .i64 3, .int .i64 44, .int .i64 0, .int .i64 0, .int .i64 0, .int .i64 0, .int .i64 45, .int .i64 0, .int .i64 0, .int .i64 0, .int .i64 0] 24) = W at *
  go_wp2_with fail
  have HO0 : Hid (W.ownsRow W.heap.size 3 1 (.slice none 0 0) 0 (intV (List.replicate 0 1))) := Lib.hid (World.ownsRow_nil _ _ _ _)
  go_loopw [5, 6] (fun v i wr => ∃ j : Nat, j ≤ k ∧ i = .int .i64 j ∧ Hid (wr.ownsRow W.heap.size 3 1 v j (intV (List.replicate j 1))) ∧ Hid (Below W.heap.size W wr)) (fun _ i _ => k - (intOf i).toNat)
  case atStart => exact ⟨0, Nat.zero_le _, rfl, HO0, Lib.hid (Below.refl _ _)⟩
  case round =>
    obtain ⟨j, hj, rfl, HO, HB⟩ := hrel
    by_cases hlt : j < k
    · go_wp2_with (at_builtin; refine app_one rfl _ _ 26 3 rfl (.int .i64 0) 1 8 Tryd.underlying26 infoInt rfl (by decide) (by decide) W.heap.size u5 j (intV (List.replicate j 1)) rfl HO.out _ [.int .i64 1] rfl rfl (fun x hx => by simp at hx; subst hx; rfl) rfl (by omega) HB.out.size ?_; intro v4 w4 HA4)
      go_roundw
      case rel =>
        refine ⟨j + 1, by omega, by go_num, Lib.hid ?_, Lib.hid (HB.out.trans HA4.out.below)⟩
        have := HA4.out.own
        rw [show intV (List.replicate (j + 1) 1) = intV (List.replicate j 1) ++ [.int .i64 1] by rw [List.replicate_succ', ← intV_app]; rfl]
        exact this
      case measure => simp [intOf]; omega
    · obtain rfl : j = k := by omega
      have HT2 := Lib.hid (HT.out.own (HA.out.trans (HB.out.mono HA.out.size)))
      have HWb := Lib.hid (HA.out.trans (HB.out.mono HA.out.size))
      have HV := Lib.hid ((HW.out.below HB.out (Nat.le_refl _)).more HB.out.size)
      clear HO0
      go_wp2_with fail
      refine (Alone_any _ deepC wr HV.out deep_ok deep_i64).mono ?_
      rintro e w1 ⟨gv, rv, rfl, hgr, hb1⟩
      have HGR1 := Lib.hid hgr
      have HB1 := Lib.hid hb1
      have HO1 := Lib.hid (row_lt HO.out hb1)
      have hzw : W.heap.size ≤ wr.heap.size := HB.out.size
      have hz1 : wr.heap.size ≤ w1.heap.size := HB1.out.size
      have Hu5 : Hid (∀ q, u5.ownBlock = some q → q < wr.heap.size) := Lib.hid fun q hq => (World.ownsRow.lt HO.out q hq).2
      clear hgr hb1
      go_wp2_with (at_builtin; refine app_one rfl _ _ 26 3 rfl (.int .i64 0) 1 8 Tryd.underlying26 infoInt rfl (by decide) (by decide) W.heap.size u5 j (intV (List.replicate j 1)) rfl HO1.out _ [.int .i64 0] rfl rfl (fun x hx => by simp at hx; subst hx; rfl) rfl (by omega) (by omega) ?_; intro v4 w4 HA4)
      have hT4 : Turn wr.heap.size w1 w4 := Turn.grown HA4.out.2.2.1 Hu5.out
      obtain ⟨hg4, hr4⟩ := HGR1.out w4 hT4
      have hz4 : w1.heap.size ≤ w4.heap.size := HA4.out.2.2.1.size
      have hb4 : Below W.heap.size W w4 := (HB.out.trans (HB1.out.mono hzw)).trans HA4.out.below
      have hi4 := row_ints (w := w4) (v := v4) (xs := List.replicate j 1 ++ [0]) (by rw [← intV_app]; exact HA4.out.own) (by simp)
      have HW4 := Lib.hid (HA.out.trans (hb4.mono HA.out.size))
      refine (deep_call_x j hk30 gv rv v4 w4 (hg4.more hz4) (hr4.more hz4) hi4 (HT.out.own HW4.out)).mono ?_
      rintro e w5 ⟨vz, A5, n5, c5, rfl, hb5⟩
      have HV5 := Lib.hid ((HW.out.below hb4 (Nat.le_refl _)).more hb4.size)
      have hA6 : Below w5.heap.size w5 ((w5.alloc (.cells #[.int .i64 0, .int .i64 vz, .slice A5 n5 c5, .int .i64 ((4 * j + 3 : Nat) : Int)] 28)).alloc (.cells #[.int .i64 0, .int .i64 0] 30)) := ((Below.refl _ _).alloc (Nat.le_refl _) _).alloc (by simp) _
      have HB6 := Lib.hid (hb5.trans (hA6.mono hb5.size))
      have HK7 := Lib.hid ((Blk.new w5 28 #[.int .i64 0, .int .i64 vz, .slice A5 n5 c5, .int .i64 ((4 * j + 3 : Nat) : Int)]).alloc (.cells #[.int .i64 0, .int .i64 0] 30))
      have HK8 : Hid (Blk ((w5.alloc (.cells #[.int .i64 0, .int .i64 vz, .slice A5 n5 c5, .int .i64 ((4 * j + 3 : Nat) : Int)] 28)).alloc (.cells #[.int .i64 0, .int .i64 0] 30)) (w5.heap.size + 1) 30 #[.int .i64 0, .int .i64 0]) := Lib.hid (by
        have := Blk.new (w5.alloc (.cells #[.int .i64 0, .int .i64 vz, .slice A5 n5 c5, .int .i64 ((4 * j + 3 : Nat) : Int)] 28)) 30 #[.int .i64 0, .int .i64 0]
        simpa using this)
      clear hT4 hg4 hr4 hb4 hi4 hb5 hA6 HA4 HGR1
      go_upto_region 9 with fail
      rw [show 4 * (j : Int) + 3 = ((4 * j + 3 : Nat) : Int) by omega]
      generalize (w5.alloc (.cells #[.int .i64 0, .int .i64 vz, .slice A5 n5 c5, .int .i64 ((4 * j + 3 : Nat) : Int)] 28)).alloc (.cells #[.int .i64 0, .int .i64 0] 30) = W6 at *
      generalize w5.heap.size = g7 at *
      have HW6 := Lib.hid (HW4.out.trans (HB6.out.mono HW4.out.size))
      have HV6 := Lib.hid ((HV5.out.below HB6.out (Nat.le_refl _)).more HB6.out.size)
      go_wp2_with fail
      refine (Alone_any _ deepC W6 HV6.out deep_ok deep_i64).mono ?_
      rintro e w8 ⟨gv8, rv8, rfl, hgr8, hb8⟩
      obtain ⟨hg8, hr8⟩ := hgr8 w8 (Turn.refl _ _)
      have HW8 := Lib.hid (HW6.out.trans (hb8.mono HW6.out.size))
      have hcall := deep_call_y gv8 rv8 w8 hg8 hr8 (HT.out.own HW8.out)
      have HK9 := Lib.hid (HK7.out.below hb8 HK7.out.lt)
      have HK10 := Lib.hid (HK8.out.below hb8 HK8.out.lt)
      have HCall := Lib.hid hcall
      clear hgr8 hg8 hr8 hb8 hcall
      go_wp2_with fail
      refine HCall.out.mono ?_
      rintro e w9 ⟨vy, A9, n9, c9, rfl, hb9⟩
      have hA10 : Below w9.heap.size w9 ((w9.alloc (.cells #[.int .i64 4, .int .i64 vy, .slice A9 n9 c9, .int .i64 90] 28)).alloc (.cells #[.int .i64 0, .int .i64 0] 30)) := ((Below.refl _ _).alloc (Nat.le_refl _) _).alloc (by simp) _
      have hB10 := hb9.trans (hA10.mono hb9.size)
      have HK11 := Lib.hid (HK9.out.below hB10 HK9.out.lt)
      have HK12 := Lib.hid (HK10.out.below hB10 HK10.out.lt)
      have HW10 := Lib.hid (HW8.out.trans (hB10.mono HW8.out.size))
      have HK13 := Lib.hid ((Blk.new w9 28 #[.int .i64 4, .int .i64 vy, .slice A9 n9 c9, .int .i64 90]).alloc (.cells #[.int .i64 0, .int .i64 0] 30))
      have HK14 : Hid (Blk ((w9.alloc (.cells #[.int .i64 4, .int .i64 vy, .slice A9 n9 c9, .int .i64 90] 28)).alloc (.cells #[.int .i64 0, .int .i64 0] 30)) (w9.heap.size + 1) 30 #[.int .i64 0, .int .i64 0]) := Lib.hid (by
        have := Blk.new (w9.alloc (.cells #[.int .i64 4, .int .i64 vy, .slice A9 n9 c9, .int .i64 90] 28)) 30 #[.int .i64 0, .int .i64 0]
        simpa using this)
      clear hb9 hA10 hB10 HCall
      go_upto_region 10 with fail
      generalize (w9.alloc (.cells #[.int .i64 4, .int .i64 vy, .slice A9 n9 c9, .int .i64 90] 28)).alloc (.cells #[.int .i64 0, .int .i64 0] 30) = W10 at *
      generalize w9.heap.size = g9 at *
      have a0 := HK11.out.cell 0
      have a3 := HK11.out.cell 3
      have b0 := HK12.out.cell 0
      have d0 := HK13.out.cell 0
      have d3 := HK13.out.cell 3
      have f0 := HK14.out.cell 0
      go_wp2_with fail
      go_ret
      exact ⟨rfl, HW10.out⟩
end Go.Proofs.YtkiaffaieniebaaDoor
