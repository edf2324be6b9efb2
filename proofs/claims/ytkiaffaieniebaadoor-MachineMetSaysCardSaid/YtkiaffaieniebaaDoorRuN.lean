/-
  Several texts in one (RuM RuN): what each proves stands at its theorems.
  Conditions: as the theorems say.
-/
import Derived.Test.YtkiaffaieniebaaDoorRuK
import Derived.Test.YtkiaffaieniebaaDoorRuL
namespace Go.Proofs.YtkiaffaieniebaaDoor
open Go.RowKit

theorem kGlobs_fine : globF kGlobs = (0, 0) := by decide +kernel
theorem kGlobs_mem : memS kGlobs = [5, 0, 0] := by decide +kernel
theorem kGlobs_ok : GOk kGlobs := by
  intro g hg
  simp only [kGlobs, List.mem_cons, List.not_mem_nil, or_false] at hg
  rcases hg with rfl | rfl
  · exact ⟨by decide, by unfold I64; decide⟩
  · exact ⟨by decide, by unfold I64; decide⟩
theorem main_name : rNameBad 0 mainB = false := by decide +kernel
theorem main_had : rHadG kGlobs mainB = false := by decide +kernel
section
variable {ms : List Mac} {inp : List Int} {fuel : Nat}
theorem alone_rok (hck : (checkS ms).1 = 0) (hi : ∀ m ∈ ms, m.ok) : ROk [⟨mainB, codeL ms⟩] := by
  intro r hr
  rw [List.mem_singleton.1 hr]
  exact ⟨by show mainB.size ≤ _; decide, codeL_bytes hck hi⟩
theorem alone_fine (hck : (checkS ms).1 = 0) (hi : ∀ m ∈ ms, m.ok) (hfar : ms.any (farB 1) = false) : machF kGlobs [⟨mainB, codeL ms⟩] = (0, 0) := by
  refine machF_ok (by rw [kGlobs_fine]) (by simp) (by simp) fun j hj => ?_
  obtain rfl : j = 0 := by simpa using hj
  refine rBad_ok (k := 0) main_name (by rw [main_had]; rfl) ?_ ?_
  · rw [read_codeL hck hi]
  · rw [read_codeL hck hi]
    exact hfar
theorem alone_codes (hck : (checkS ms).1 = 0) (hi : ∀ m ∈ ms, m.ok) : imgCodes [⟨mainB, codeL ms⟩] = [ms] := by
  unfold imgCodes
  simp only [List.map_cons, List.map_nil]
  rw [read_codeL hck hi]
theorem alone_run (hck : (checkS ms).1 = 0) (hi : ∀ m ∈ ms, m.ok) (hfar : ms.any (farB 1) = false) (hin : inp.length ≤ 30) (hf : fuel ≤ 900000) :
    runF kGlobs [⟨mainB, codeL ms⟩] inp (fuel : Int) = (0, 0) ∧ runO kGlobs [⟨mainB, codeL ms⟩] inp (fuel : Int) = (runS [ms] (startS [5, 0, 0] inp) fuel).told ∧ runT kGlobs [⟨mainB, codeL ms⟩] inp (fuel : Int) = metS [ms] (startS [5, 0, 0] inp) fuel := by
  have h : runF kGlobs [⟨mainB, codeL ms⟩] inp (fuel : Int) = (0, 0) := by
    unfold runF
    rw [alone_fine hck hi hfar, if_neg (by simp), if_neg (by omega), if_neg (by omega)]
  refine ⟨h, ?_, ?_⟩
  · rw [(run_fine h).1, alone_codes hck hi, Int.toNat_natCast]
    unfold beginS
    rw [kGlobs_mem]
  · rw [(run_fine h).2.2, alone_codes hck hi, Int.toNat_natCast]
    unfold beginS
    rw [kGlobs_mem]
end
theorem loop_ok : (checkS loopC).1 = 0 := by decide +kernel
theorem loop_i64 : ∀ m ∈ loopC, m.ok := by
  intro m hm
  simp only [loopC, List.mem_cons, List.not_mem_nil, or_false] at hm
  rcases hm with rfl | rfl | rfl | rfl | rfl | rfl | rfl
  all_goals exact ⟨by unfold I64; decide, by unfold I64; decide, by unfold I64; decide, by unfold I64; decide, by unfold I64; decide⟩
theorem loop_far : loopC.any (farB 1) = false := by decide +kernel
theorem deep_ok : (checkS deepC).1 = 0 := by decide +kernel
theorem deep_i64 : ∀ m ∈ deepC, m.ok := by
  intro m hm
  simp only [deepC, List.mem_cons, List.not_mem_nil, or_false] at hm
  rcases hm with rfl | rfl | rfl | rfl
  all_goals exact ⟨by unfold I64; decide, by unfold I64; decide, by unfold I64; decide, by unfold I64; decide, by unfold I64; decide⟩
theorem deep_far : deepC.any (farB 1) = false := by decide +kernel
end Go.Proofs.YtkiaffaieniebaaDoor
namespace Go.Proofs.YtkiaffaieniebaaDoor
open Go.RowKit

theorem macs_lit {w : World} {b : Nat} {cs : Array Value} {ms : List Mac} {n : Nat} (hb : Blk w b 24 cs) (hcs : cs.toList = cellsS ms) (hn : ms.length = n) (h63 : n ≤ 9223372036854775807) : MacsAt w w.heap.size (.slice (some ⟨b, 0, none⟩) n n) ms := by
  subst hn
  refine macs_of_cells hb (fun j u hu => ?_) (Nat.le_refl _) h63
  rw [Nat.zero_add, ← Array.getElem?_toList, hcs]
  exact hu
theorem ints_lit {w : World} {b : Nat} {cs : Array Value} {xs : List Int} {n : Nat} (hb : Blk w b 3 cs) (hcs : cs.toList = intV xs) (hn : xs.length = n) (h63 : n ≤ 9223372036854775807) : IntsAt w w.heap.size (.slice (some ⟨b, 0, none⟩) n n) xs := by
  subst hn
  refine ⟨_, _, rfl, Nat.le_refl _, h63, fun _ => ⟨b, 0, rfl, hb.lt, fun k x hk => ?_⟩⟩
  rw [hb.cell, Nat.zero_add, ← Array.getElem?_toList, hcs, intV_at, hk]
  rfl
set_option maxRecDepth 100000 in
set_option maxHeartbeats 2000000 in
theorem MachineLoop_any (n : Int) (w : World) (hn : I64 n) (ht : Tab w) : Calls Tryd.prog 3 #[.int .i64 n] w fun e w' => e = .returned (.bool true) ∧ Below w.heap.size w w' := by
  obtain ⟨k, hk⟩ : ∃ k : Nat, n % 60 = k := ⟨(n % 60).toNat, by omega⟩
  have hk60 : k < 60 := by omega
  have Hk := Lib.hid hk
  have Hn := Lib.hid hn
  have HT := Lib.hid ht
  obtain ⟨sk, hsk⟩ : ∃ sk, sumTo k = sk := ⟨_, rfl⟩
  have Hsk := Lib.hid hsk
  have h2 := sumTo_twice k
  obtain ⟨p1, p2⟩ := sumTo_pos k
  have p3 : (k : Int) * (k : Int) ≤ 60 * 60 := Int.mul_le_mul (by omega) (by omega) (by omega) (by omega)
  rw [hsk] at h2 p1 p2
  have hsk1 : sk ≤ 3600 := by omega
  have hprod : (k : Int) * ((k : Int) - 1) = 2 * sk := h2.symm
  have hquo : Int.tdiv (2 * sk) 2 = sk := Int.mul_tdiv_cancel_left sk (by decide)
  have hdiv : 2 * sk / 2 = sk := by omega
  have HLit : Hid (∀ W : World, MacsAt (W.alloc (.cells (cellsS loopC).toArray 24)) (W.alloc (.cells (cellsS loopC).toArray 24)).heap.size (.slice (some ⟨W.heap.size, 0, none⟩) 7 7) loopC) := Lib.hid fun W => macs_lit (Blk.new W _ _) rfl rfl (by decide)
  have HA : Hid (Below w.heap.size w (w.alloc (.cells (cellsS loopC).toArray 24))) := Lib.hid ((Below.refl _ _).alloc (Nat.le_refl _) _)
  have HW := Lib.hid (HLit.out w)
  have hcl : (cellsS loopC).toArray = #[.int .i64 46, .int .i64 1, .int .i64 0, .int .i64 0, .int .i64 0, .int .i64 43, .int .i64 0, .int .i64 1, .int .i64 2, .int .i64 6, .int .i64 47, .int .i64 0, .int .i64 2, .int .i64 0, .int .i64 0, .int .i64 5, .int .i64 0, .int .i64 0, .int .i64 2, .int .i64 0, .int .i64 19, .int .i64 2, .int .i64 2, .int .i64 0, .int .i64 1, .int .i64 37, .int .i64 0, .int .i64 0, .int .i64 0, .int .i64 1, .int .i64 45, .int .i64 0, .int .i64 0, .int .i64 0, .int .i64 0] := rfl
  rw [hcl] at HA HW
  clear hk hn ht hsk h2 p2 p3 HLit hcl
  go_enter Tryd.func3, Tryd.ntmps3
  go_wp2_with fail
  refine (Picked_any n 60 _ (by omega) (by omega) Hn.out).mono ?_
  rintro e w' ⟨rfl, rfl⟩
  rw [Hk.out]
  go_upto_region 3 with fail
  generalize w.alloc (.cells #[.int .i64 46, .int .i64 1, .int .i64 0, .int .i64 0, .int .i64 0, .int .i64 43, .int .i64 0, .int .i64 1, .int .i64 2, .int .i64 6, .int .i64 47, .int .i64 0, .int .i64 2, .int .i64 0, .int .i64 0, .int .i64 5, .int .i64 0, .int .i64 0, .int .i64 2, .int .i64 0, .int .i64 19, .int .i64 2, .int .i64 2, .int .i64 0, .int .i64 1, .int .i64 37, .int .i64 0, .int .i64 0, .int .i64 0, .int .i64 1, .int .i64 45, .int .i64 0, .int .i64 0, .int .i64 0, .int .i64 0] 24) = W at *
  go_wp2_with fail
  refine (Alone_any _ loopC W HW.out loop_ok loop_i64).mono ?_
  rintro e w1 ⟨gv, rv, rfl, hgr, hb1⟩
  obtain ⟨hg, hr⟩ := hgr w1 (Turn.refl _ _)
  have HB1 := Lib.hid (HA.out.trans (hb1.mono HA.out.size))
  have hA2 : Below w1.heap.size w1 (w1.alloc (.cells #[.int .i64 (k : Int)] 3)) := (Below.refl _ _).alloc (Nat.le_refl _) _
  have HG2 := Lib.hid ((hg.below hA2 (Nat.le_refl _)).more hA2.size)
  have HR2 := Lib.hid ((hr.below hA2 (Nat.le_refl _)).more hA2.size)
  have HI2 := Lib.hid (ints_lit (xs := [(k : Int)]) (Blk.new w1 3 #[.int .i64 (k : Int)]) rfl rfl (by simp))
  have HB2 := Lib.hid (HB1.out.trans (hA2.mono HB1.out.size))
  clear hg hr hb1 hA2 hgr
  go_wp2_with fail
  generalize w1.alloc (.cells #[.int .i64 (k : Int)] 3) = W2 at *
  have hcall := Run_any gv rv _ kGlobs [⟨mainB, codeL loopC⟩] [(k : Int)] 400 W2 HG2.out HR2.out HI2.out kGlobs_ok (alone_rok loop_ok loop_i64) (HT.out.own HB2.out)
  obtain ⟨q1, q2, _⟩ := alone_run (inp := [(k : Int)]) (fuel := 400) loop_ok loop_i64 loop_far (by simp) (by omega)
  rw [show ((400 : Nat) : Int) = 400 from rfl] at q1 q2
  rw [q1, q2, loop_run _ k hk60] at hcall
  unfold Mch.told at hcall
  simp only [if_true] at hcall
  refine hcall.mono ?_
  rintro e w3 ⟨ov, rfl, hov, hb3⟩
  obtain ⟨Ao, co, hov'⟩ := row_form hov
  subst hov'
  have hol : (outTo k).length = k := by unfold outTo; simp
  simp only at hov
  rw [hol] at hov
  have HO := Lib.hid hov
  have HB3 := Lib.hid (HB2.out.trans (hb3.mono HB2.out.size))
  have hA4 : Below w3.heap.size w3 ((w3.alloc (.cells #[.int .i64 0, .int .i64 sk, .slice Ao k co, .int .i64 ((5 * k + 3 : Nat) : Int)] 28)).alloc (.cells #[.int .i64 0, .int .i64 0] 30)) := ((Below.refl _ _).alloc (Nat.le_refl _) _).alloc (by simp) _
  have HB4 := Lib.hid (HB3.out.trans (hA4.mono HB3.out.size))
  have HO4 := Lib.hid (row_ints (row_lt HO.out hA4) hol.symm)
  have HK5 := Lib.hid ((Blk.new w3 28 #[.int .i64 0, .int .i64 sk, .slice Ao k co, .int .i64 ((5 * k + 3 : Nat) : Int)]).alloc (.cells #[.int .i64 0, .int .i64 0] 30))
  have HK6 : Hid (Blk ((w3.alloc (.cells #[.int .i64 0, .int .i64 sk, .slice Ao k co, .int .i64 ((5 * k + 3 : Nat) : Int)] 28)).alloc (.cells #[.int .i64 0, .int .i64 0] 30)) (w3.heap.size + 1) 30 #[.int .i64 0, .int .i64 0]) := Lib.hid (by
    have := Blk.new (w3.alloc (.cells #[.int .i64 0, .int .i64 sk, .slice Ao k co, .int .i64 ((5 * k + 3 : Nat) : Int)] 28)) 30 #[.int .i64 0, .int .i64 0]
    simpa using this)
  have Hol := Lib.hid hol
  clear hov hb3 hA4 hol hcall q1 q2
  rw [Hsk.out]
  have hbn : (sk != sk) = false := by simp
  go_upto_region 4 with fail
  rw [Hol.out, show 5 * (k : Int) + 3 = ((5 * k + 3 : Nat) : Int) by omega]
  generalize (w3.alloc (.cells #[.int .i64 0, .int .i64 sk, .slice Ao k co, .int .i64 ((5 * k + 3 : Nat) : Int)] 28)).alloc (.cells #[.int .i64 0, .int .i64 0] 30) = W4 at *
  generalize w3.heap.size = g5 at *
  have a0 := HK5.out.cell 0
  have a1 := HK5.out.cell 1
  have a2 := HK5.out.cell 2
  have a3 := HK5.out.cell 3
  have b0 := HK6.out.cell 0
  go_wp2_with fail
  go_loopw [7] (fun i wr => ∃ j : Nat, j ≤ k ∧ i = .int .i64 j ∧ wr = W4) (fun i _ => k - (intOf i).toNat)
  case atStart => exact ⟨0, Nat.zero_le _, rfl, rfl⟩
  case round =>
    obtain ⟨j, hj, rfl, rfl⟩ := hrel
    by_cases hlt : j < k
    · obtain ⟨A', c', e, hc1, _, h3⟩ := HO4.out
      obtain ⟨bo, oo, hA', hbo, hcell⟩ := h3 (by rw [Hol.out]; omega)
      obtain rfl : A' = Ao := ((Value.slice.inj e).1).symm
      clear e
      subst hA'
      have cj : wr.cell? ⟨bo, oo + j, none⟩ = some (.int .i64 (j : Int)) := hcell j _ (by unfold outTo; rw [List.getElem?_map, List.getElem?_range hlt]; rfl)
      have hbj : ((j : Int) != (j : Int)) = false := by simp
      clear hcell h3 hc1 hbo
      go_wp2_with fail
      go_roundw
      case rel => exact ⟨j + 1, by omega, by go_num, trivial⟩
      case measure => simp [intOf]; omega
    · go_wp2_with fail
      go_ret
      exact ⟨rfl, HB4.out⟩
end Go.Proofs.YtkiaffaieniebaaDoor
