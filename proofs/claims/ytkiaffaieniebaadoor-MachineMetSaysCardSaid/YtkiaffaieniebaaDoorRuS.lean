/-
  Several texts in one (RuR RuS): what each proves stands at its theorems.
  Conditions: as the theorems say.
-/
import Derived.Test.YtkiaffaieniebaaDoorRuN
import Derived.Deep.QuietTactic
import Derived.BigQuiet
namespace Go.Proofs.YtkiaffaieniebaaDoor
open Go.RowKit

set_option maxHeartbeats 1000000 in
theorem Input_any (v : Value) (xs : List Int) (w : World) (hv : IntsAt w w.heap.size v xs) : Calls Tryd.prog 22 #[v] w fun e w' => ∃ v', e = .returned v' ∧ w'.ownsRow w.heap.size 3 1 v' (xs.take 8).length (intV (xs.take 8)) ∧ Below w.heap.size w w' := by
  have HV := Lib.hid hv
  obtain ⟨A, c, hvv, hc, h63, _⟩ := hv
  subst hvv
  obtain ⟨len, hlen⟩ : ∃ len, xs.length = len := ⟨_, rfl⟩
  have HL := Lib.hid hlen
  rw [hlen] at hc HV ⊢
  clear hlen
  obtain ⟨PE, hPE⟩ : ∃ PE : Ending → World → Prop, (fun e w' => ∃ v', e = .returned v' ∧ w'.ownsRow w.heap.size 3 1 v' (xs.take 8).length (intV (xs.take 8)) ∧ Below w.heap.size w w') = PE := ⟨_, rfl⟩
  rw [hPE]
  have HPE : Hid (∀ v' w', w'.ownsRow w.heap.size 3 1 v' (xs.take 8).length (intV (xs.take 8)) → Below w.heap.size w w' → PE (.returned v') w') := Lib.hid fun v' w' h1 h2 => by rw [← hPE]; exact ⟨v', rfl, h1, h2⟩
  clear hPE
  go_enter Tryd.func22, Tryd.ntmps22
  go_wp2_with fail
  go_loopw [3, 4] (fun v i wr => ∃ j : Nat, j ≤ len ∧ j ≤ 8 ∧ i = .int .i64 j ∧ Hid (wr.ownsRow w.heap.size 3 1 v j (intV (xs.take j))) ∧ Hid (Below w.heap.size w wr)) (fun _ i _ => len - (intOf i).toNat)
  case atStart => exact ⟨0, Nat.zero_le _, Nat.zero_le _, rfl, Lib.hid (World.ownsRow_nil _ _ _ _), Lib.hid (Below.refl _ _)⟩
  case round =>
    obtain ⟨j, hj, hj8, rfl, HO, HB⟩ := hrel
    by_cases hlt : j < len ∧ j < 8
    · obtain ⟨h1, h2⟩ := hlt
      obtain ⟨A', c', e, _, _, h3⟩ := HV.out
      obtain ⟨b, off, hA, hb, hcell⟩ := h3 (by rw [HL.out]; omega)
      cases e
      subst hA
      obtain ⟨x, hx⟩ : ∃ x, xs[j]? = some x := ⟨xs[j]'(by rw [HL.out]; exact h1), List.getElem?_eq_getElem _⟩
      have cx := (bcell HB.out hb).trans (hcell j x hx)
      have Hx := Lib.hid hx
      clear hcell h3 hx hb
      go_wp2_with (at_builtin; refine app_one rfl _ _ 26 3 rfl (.int .i64 0) 1 8 Tryd.underlying26 infoInt rfl (by decide) (by decide) w.heap.size u3 j (intV (xs.take j)) rfl HO.out _ [.int .i64 x] rfl rfl (fun x hx => by simp at hx; subst hx; rfl) rfl (by omega) HB.out.size ?_; intro v4 w4 HA4)
      go_roundw
      case rel =>
        refine ⟨j + 1, by omega, by omega, by go_num, Lib.hid ?_, Lib.hid (HB.out.trans HA4.out.below)⟩
        have := HA4.out.own
        rw [take_snoc' xs j x Hx.out, ← intV_app]
        exact this
      case measure => simp [intOf]; omega
    · have hm : (xs.take 8).length = j ∧ xs.take 8 = xs.take j := by
        rw [List.length_take, HL.out]
        rcases (by omega : j = 8 ∨ (j = len ∧ len < 8)) with rfl | ⟨rfl, h8⟩
        · exact ⟨by omega, rfl⟩
        · exact ⟨by omega, by rw [List.take_of_length_le (by rw [HL.out]; omega), List.take_of_length_le (by rw [HL.out]; exact Nat.le_refl _)]⟩
      have HM := Lib.hid hm
      clear hm
      by_cases h1 : j < len
      all_goals
        go_wp2_with fail
        refine HPE.out _ _ ?_ HB.out
        rw [HM.out.1, HM.out.2]
        exact HO.out
/-- Two outcomes, their steps aside. -/
def comesB (s t : Mch) : Bool := decide (s.state = t.state ∧ s.value = t.value ∧ s.out = t.out)
def sameB (s t : Mch) : Bool := decide (s.state = t.state ∧ s.value = t.value ∧ s.out = t.out ∧ s.steps = t.steps)
def outV (s : Mch) (ov : Value) : Value := .agg #[.int .i64 s.state, .int .i64 s.value, ov, .int .i64 (s.steps : Int)]
set_option maxHeartbeats 1000000 in
theorem Comes_any (s t : Mch) (ov pv : Value) (w : World) (h1 : IntsAt w w.heap.size ov s.out) (h2 : IntsAt w w.heap.size pv t.out) : Calls Tryd.prog 35 #[outV s ov, outV t pv] w fun e w' => e = .returned (.bool (comesB s t)) ∧ Below w.heap.size w w' := by
  obtain ⟨regs, mem, calls, input, out, steps, state, value, over⟩ := s
  obtain ⟨regs', mem', calls', input', out', steps', state', value', over'⟩ := t
  simp only at h1 h2
  unfold outV comesB
  simp only
  have H1 := Lib.hid h1
  have H2 := Lib.hid h2
  obtain ⟨A1, c1, e1, _⟩ := h1
  subst e1
  obtain ⟨A2, c2, e2, _⟩ := h2
  subst e2
  obtain ⟨z, hz⟩ : ∃ z, decide (state = state' ∧ value = value' ∧ out = out') = z := ⟨_, rfl⟩
  rw [hz]
  have Hz := Lib.hid hz
  clear hz
  have hA : Below w.heap.size w ((w.alloc (.cells #[.int .i64 state, .int .i64 value, .slice A1 out.length c1, .int .i64 (steps : Int)] 28)).alloc (.cells #[.int .i64 state', .int .i64 value', .slice A2 out'.length c2, .int .i64 (steps' : Int)] 28)) := ((Below.refl _ _).alloc (Nat.le_refl _) _).alloc (by simp) _
  have HI := Lib.hid (Ints_any _ _ out out' _ ((H1.out.below hA (Nat.le_refl _)).more hA.size) ((H2.out.below hA (Nat.le_refl _)).more hA.size))
  have HA := Lib.hid hA
  clear hA
  by_cases hs : state = state'
  · subst hs
    have hb1 : (state == state) = true := by simp
    by_cases hv : value = value'
    · subst hv
      have hb2 : (value == value) = true := by simp
      obtain ⟨q, hq⟩ : ∃ q : Bool, decide (out = out') = q := ⟨_, rfl⟩
      have Hq : Hid (z = q) := Lib.hid (by rw [← Hz.out, ← hq]; simp)
      rw [hq] at HI
      clear hq
      cases q
      all_goals
        go_enter Tryd.func35, Tryd.ntmps35
        go_wp2_with fail
        refine HI.out.mono ?_
        rintro e w1 ⟨rfl, hb⟩
        have HB := Lib.hid (HA.out.trans (hb.mono HA.out.size))
        clear hb
        go_wp2_with fail
        go_ret
        exact ⟨ret_bool Hq.out.symm, HB.out⟩
    · have hb2 : (value == value') = false := by simp [hv]
      have Hq : Hid (z = false) := Lib.hid (by rw [← Hz.out]; simp [hv])
      clear hv
      go_enter Tryd.func35, Tryd.ntmps35
      go_wp2_with fail
      go_ret
      exact ⟨ret_bool Hq.out.symm, HA.out⟩
  · have hb1 : (state == state') = false := by simp [hs]
    have Hq : Hid (z = false) := Lib.hid (by rw [← Hz.out]; simp [hs])
    clear hs
    go_enter Tryd.func35, Tryd.ntmps35
    go_wp2_with fail
    go_ret
    exact ⟨ret_bool Hq.out.symm, HA.out⟩
set_option maxHeartbeats 1000000 in
theorem Outcomes_any (s t : Mch) (ov pv : Value) (w : World) (h1 : IntsAt w w.heap.size ov s.out) (h2 : IntsAt w w.heap.size pv t.out) : Calls Tryd.prog 17 #[outV s ov, outV t pv] w fun e w' => e = .returned (.bool (sameB s t)) ∧ Below w.heap.size w w' := by
  obtain ⟨A1, c1, e1, _⟩ := id h1
  obtain ⟨A2, c2, e2, _⟩ := id h2
  have hA : Below w.heap.size w ((w.alloc (.cells #[.int .i64 s.state, .int .i64 s.value, ov, .int .i64 (s.steps : Int)] 28)).alloc (.cells #[.int .i64 t.state, .int .i64 t.value, pv, .int .i64 (t.steps : Int)] 28)) := ((Below.refl _ _).alloc (Nat.le_refl _) _).alloc (by simp) _
  have HI := Lib.hid (Comes_any s t ov pv _ ((h1.below hA (Nat.le_refl _)).more hA.size) ((h2.below hA (Nat.le_refl _)).more hA.size))
  have HA := Lib.hid hA
  have HK1 := Lib.hid ((Blk.new w 28 #[.int .i64 s.state, .int .i64 s.value, ov, .int .i64 (s.steps : Int)]).alloc (.cells #[.int .i64 t.state, .int .i64 t.value, pv, .int .i64 (t.steps : Int)] 28))
  have HK2 : Hid (Blk ((w.alloc (.cells #[.int .i64 s.state, .int .i64 s.value, ov, .int .i64 (s.steps : Int)] 28)).alloc (.cells #[.int .i64 t.state, .int .i64 t.value, pv, .int .i64 (t.steps : Int)] 28)) (w.heap.size + 1) 28 #[.int .i64 t.state, .int .i64 t.value, pv, .int .i64 (t.steps : Int)]) := Lib.hid (by
    have := Blk.new (w.alloc (.cells #[.int .i64 s.state, .int .i64 s.value, ov, .int .i64 (s.steps : Int)] 28)) 28 #[.int .i64 t.state, .int .i64 t.value, pv, .int .i64 (t.steps : Int)]
    simpa using this)
  clear h1 h2 hA
  subst e1
  subst e2
  unfold outV at HI ⊢
  obtain ⟨q, hq⟩ : ∃ q : Bool, comesB s t = q := ⟨_, rfl⟩
  rw [hq] at HI
  have Hs : Hid (sameB s t = (q && decide (s.steps = t.steps))) := Lib.hid (by rw [← hq]; unfold sameB comesB; rw [← Bool.decide_and]; simp only [and_assoc])
  clear hq
  go_enter Tryd.func17, Tryd.ntmps17
  go_wp2_with fail
  generalize (w.alloc (.cells #[.int .i64 s.state, .int .i64 s.value, .slice A1 s.out.length c1, .int .i64 (s.steps : Int)] 28)).alloc (.cells #[.int .i64 t.state, .int .i64 t.value, .slice A2 t.out.length c2, .int .i64 (t.steps : Int)] 28) = W at *
  refine HI.out.mono ?_
  rintro e w1 ⟨rfl, hb⟩
  have HB := Lib.hid (HA.out.trans (hb.mono HA.out.size))
  have HK1' := Lib.hid (HK1.out.below hb HK1.out.lt)
  have HK2' := Lib.hid (HK2.out.below hb HK2.out.lt)
  have a3 := HK1'.out.cell 3
  have b3 := HK2'.out.cell 3
  clear hb
  cases q
  · go_wp2_with fail
    go_ret
    exact ⟨ret_bool (by rw [Hs.out]; rfl), HB.out⟩
  · by_cases hst : s.steps = t.steps
    · have hbs : ((s.steps : Int) == (t.steps : Int)) = true := by simp [hst]
      have Hst := Lib.hid hst
      clear hst
      go_wp2_with fail
      go_ret
      exact ⟨ret_bool (by rw [Hs.out]; simp [Hst.out]), HB.out⟩
    · have hbs : ((s.steps : Int) == (t.steps : Int)) = false := by simp; omega
      have Hst := Lib.hid hst
      clear hst
      go_wp2_with fail
      go_ret
      exact ⟨ret_bool (by rw [Hs.out]; simp [Hst.out]), HB.out⟩
end Go.Proofs.YtkiaffaieniebaaDoor
namespace Go.Proofs.YtkiaffaieniebaaDoor
open Go.RowKit

def sureC : List Mac := [⟨1, 0, 0, 0, 7⟩, ⟨45, 0, 0, 0, 0⟩]
theorem sure_ok : (checkS sureC).1 = 0 := by decide +kernel
theorem sure_i64 : ∀ m ∈ sureC, m.ok := by
  intro m hm
  simp only [sureC, List.mem_cons, List.not_mem_nil, or_false] at hm
  rcases hm with rfl | rfl
  all_goals exact ⟨by unfold I64; decide, by unfold I64; decide, by unfold I64; decide, by unfold I64; decide, by unfold I64; decide⟩
theorem sure_far : sureC.any (farB 1) = false := by decide +kernel
theorem sure_len : 3 ≤ (codeL sureC).length := by decide +kernel
theorem sure_fine : machF [] [⟨mainB, codeL sureC⟩] = (0, 0) := by
  refine machF_ok (by decide +kernel) (by simp) (by simp) fun j hj => ?_
  obtain rfl : j = 0 := by simpa using hj
  refine rBad_ok (k := 0) main_name (by decide +kernel) ?_ ?_
  · rw [read_codeL sure_ok sure_i64]
  · rw [read_codeL sure_ok sure_i64]
    exact sure_far
theorem sure_run : runF [] [⟨mainB, codeL sureC⟩] [] 2 = (0, 0) ∧ ∃ v, runO [] [⟨mainB, codeL sureC⟩] [] 2 = v ∧ v.state = 0 ∧ v.value = 7 ∧ v.steps = 2 := by
  have h : runF [] [⟨mainB, codeL sureC⟩] [] 2 = (0, 0) := by
    unfold runF
    rw [sure_fine, if_neg (by simp), if_neg (by omega), if_neg (by simp)]
  refine ⟨h, _, rfl, ?_⟩
  rw [(run_fine h).1, alone_codes sure_ok sure_i64]
  have s1 : stepS [sureC] (beginS [] []) = ⟨[7, 0, 0, 0, 0, 0, 0, 0, 0, 0, 0, 0, 0, 0, 0, 0], [], [⟨0, 1, List.replicate 120 0⟩], [], [], 1, 0, 0, false⟩ := by
    simp [stepS, beginS, memS, startS, doS, macAt, sureC, movesS, Mch.set, Mch.begun, Fr.next, List.replicate_succ]
  have h1 := (run_go (codes := [sureC]) (s := beginS [] []) (k := 0) (t := beginS [] []) rfl rfl).trans s1
  have h2 := run_go h1 rfl
  have e : (2 : Int).toNat = 0 + 1 + 1 := rfl
  rw [e, h2]
  simp [stepS, doS, macAt, sureC, speaksS, retS, Mch.begun, Mch.reg, Mch.told]
set_option maxRecDepth 100000 in
set_option maxHeartbeats 2000000 in
theorem Sure_any (w : World) (ht : Tab w) : Calls Tryd.prog 23 #[] w fun e w' => e = .returned (.bool true) ∧ Below w.heap.size w w' := by
  have HT := Lib.hid ht
  have HA : Hid (Below w.heap.size w (w.alloc (.cells (cellsS sureC).toArray 24))) := Lib.hid ((Below.refl _ _).alloc (Nat.le_refl _) _)
  have HW := Lib.hid (macs_lit (n := 2) (Blk.new w 24 (cellsS sureC).toArray) (ms := sureC) rfl rfl (by decide))
  have hcl : (cellsS sureC).toArray = #[.int .i64 1, .int .i64 0, .int .i64 0, .int .i64 0, .int .i64 7, .int .i64 45, .int .i64 0, .int .i64 0, .int .i64 0, .int .i64 0] := rfl
  rw [hcl] at HA HW
  obtain ⟨q1, v, q2, q3, q4, q5⟩ := sure_run
  have HQ1 := Lib.hid q1
  have HQ2 := Lib.hid q2
  have hl := sure_len
  obtain ⟨L, hL⟩ : ∃ L, (codeL sureC).length = L := ⟨_, rfl⟩
  rw [hL] at hl
  have HL := Lib.hid hL
  have HQ : Hid (v.state = 0 ∧ v.value = 7 ∧ v.steps = 2) := Lib.hid ⟨q3, q4, q5⟩
  clear ht hcl q1 q2 q3 q4 q5 hL
  go_enter Tryd.func23, Tryd.ntmps23
  go_wp2_with fail
  generalize w.alloc (.cells #[.int .i64 1, .int .i64 0, .int .i64 0, .int .i64 0, .int .i64 7, .int .i64 45, .int .i64 0, .int .i64 0, .int .i64 0, .int .i64 0] 24) = W at *
  refine (Code_any _ sureC W HW.out (HT.out.own HA.out) sure_i64).mono ?_
  rintro e w1 ⟨bv, rfl, hbv, hb1⟩
  rw [check_zero sure_ok]
  obtain ⟨Ab, cb, hbe, _⟩ := id hbv
  subst hbe
  rw [HL.out] at hbv ⊢
  have HB1 := Lib.hid (HA.out.trans (hb1.mono HA.out.size))
  have hA2 : Below w1.heap.size w1 (w1.alloc (.cells #[.int .i64 0, .int .i64 0] 30)) := (Below.refl _ _).alloc (Nat.le_refl _) _
  have HBv := Lib.hid ((hbv.below hA2 (Nat.le_refl _)).more hA2.size)
  have HB2 := Lib.hid (HB1.out.trans (hA2.mono HB1.out.size))
  have HF2 := Lib.hid (Blk.new w1 30 #[.int .i64 0, .int .i64 0])
  clear hbv hb1 hA2
  go_upto_region 2 with fail
  generalize w1.alloc (.cells #[.int .i64 0, .int .i64 0] 30) = W2 at *
  generalize w1.heap.size = g2 at *
  have f0 := HF2.out.cell 0
  have hA3 : Below W2.heap.size W2 (W2.alloc (.cells #[.string ⟨#[109, 97, 105, 110]⟩, .slice Ab L cb] 56)) := (Below.refl _ _).alloc (Nat.le_refl _) _
  have HB3 := Lib.hid (HB2.out.trans (hA3.mono HB2.out.size))
  have hk3 := Blk.new W2 56 #[.string ⟨#[109, 97, 105, 110]⟩, .slice Ab L cb]
  have HR3 := Lib.hid (rout_one (n := mainB) hk3.lt (hk3.cell 0) (hk3.cell 1) ((HBv.out.below hA3 (Nat.le_refl _)).more hA3.size))
  clear hA3 hk3
  go_wp2_with fail
  generalize W2.alloc (.cells #[.string ⟨#[109, 97, 105, 110]⟩, .slice Ab L cb] 56) = W3 at *
  have hcall := Run_any (.slice none 0 0) _ (.slice none 0 0) [] [⟨mainB, codeL sureC⟩] [] 2 W3 ⟨none, 0, rfl, by simp, by omega, fun h => by simp at h⟩ HR3.out ⟨none, 0, rfl, by simp, by omega, fun h => by simp at h⟩ (fun g hg => by cases hg) (alone_rok sure_ok sure_i64) (HT.out.own HB3.out)
  rw [HQ1.out, HQ2.out] at hcall
  refine hcall.mono ?_
  rintro e w4 ⟨ov, rfl, hov, hb4⟩
  obtain ⟨Ao, co, rfl⟩ := row_form hov
  rw [HQ.out.1, HQ.out.2.1, HQ.out.2.2]
  have HB4 := Lib.hid (HB3.out.trans (hb4.mono HB3.out.size))
  have hA5 : Below w4.heap.size w4 ((w4.alloc (.cells #[.int .i64 0, .int .i64 7, .slice Ao v.out.length co, .int .i64 2] 28)).alloc (.cells #[.int .i64 0, .int .i64 0] 30)) := ((Below.refl _ _).alloc (Nat.le_refl _) _).alloc (by simp) _
  have HB5 := Lib.hid (HB4.out.trans (hA5.mono HB4.out.size))
  have HK5 := Lib.hid ((Blk.new w4 28 #[.int .i64 0, .int .i64 7, .slice Ao v.out.length co, .int .i64 2]).alloc (.cells #[.int .i64 0, .int .i64 0] 30))
  have HK6 : Hid (Blk ((w4.alloc (.cells #[.int .i64 0, .int .i64 7, .slice Ao v.out.length co, .int .i64 2] 28)).alloc (.cells #[.int .i64 0, .int .i64 0] 30)) (w4.heap.size + 1) 30 #[.int .i64 0, .int .i64 0]) := Lib.hid (by
    have := Blk.new (w4.alloc (.cells #[.int .i64 0, .int .i64 7, .slice Ao v.out.length co, .int .i64 2] 28)) 30 #[.int .i64 0, .int .i64 0]
    simpa using this)
  clear hov hb4 hA5 hcall
  go_upto_region 5 with fail
  generalize (w4.alloc (.cells #[.int .i64 0, .int .i64 7, .slice Ao v.out.length co, .int .i64 2] 28)).alloc (.cells #[.int .i64 0, .int .i64 0] 30) = W5 at *
  generalize w4.heap.size = g5 at *
  have a0 := HK5.out.cell 0
  have a1 := HK5.out.cell 1
  have a3 := HK5.out.cell 3
  have b0 := HK6.out.cell 0
  go_wp2_with fail
  go_ret
  exact ⟨rfl, HB5.out⟩
end Go.Proofs.YtkiaffaieniebaaDoor
