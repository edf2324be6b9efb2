/-
  The statement AsmFixed, walked.
  Conditions: the laid start (Std).
-/
import Derived.Test.YtdldochhondifaaGreatDoorAuD
namespace Go.Proofs.YtdldochhondifaaGreatDoor
open Go.RowKit
attribute [local go_sem] Oper.semAt_some

theorem steps_ok {nb : Bool} : ∀ (ls : List (List UInt8)) (i : Nat) (st : PSt) (n : Nat), StOk st n → StOk (stepsP nb i st ls).2 (n + ls.length)
  | [], _, _, _, h => h
  | l :: ls, i, st, n, h => by
    have hw : ∀ {s : PSt} {a b : Nat}, StOk s a → a ≤ b → StOk s b := fun h hab => ⟨h.1, Nat.le_trans h.2.1 hab, Nat.le_trans h.2.2 hab⟩
    rw [stepsP]
    split
    · exact hw (steps_ok ls (i + 1) st n h) (by rw [List.length_cons]; omega)
    · split
      · exact hw (steps_ok ls (i + 1) _ (n + 1) (line_ok h)) (by rw [List.length_cons]; omega)
      · exact hw h (by omega)
/-- What has been read is code without a fault, of 64 bits; where there is a fault, nothing has been read. -/
theorem read_says (t : List UInt8) : ((readP t).2.1 ≠ 0 ∧ (readP t).1 = []) ∨ ((readP t).2 = (0, 0) ∧ (checkS (readP t).1).1 = 0 ∧ ∀ m ∈ (readP t).1, m.ok) := by
  by_cases h8 : 80000 < t.length
  · have : readP t = ([], (2, 0)) := by unfold readP; rw [if_pos h8]
    rw [this]
    exact .inl ⟨by decide, rfl⟩
  obtain ⟨r, hr⟩ : ∃ r, stepsP false 0 ⟨[], []⟩ (linesL t) = r := ⟨_, rfl⟩
  have hok : StOk r.2 (linesL t).length := by
    have := steps_ok (nb := false) (linesL t) 0 ⟨[], []⟩ 0 ⟨fun x h => by simp at h, Nat.le_refl _, Nat.le_refl _⟩
    rw [hr] at this
    simpa using this
  have hll := lines_len t
  by_cases h0 : r.1.1 = 0
  · have he : readP t = match settleP r.2 with | some i => ([], (6, (i : Int))) | none => if (checkS (settled r.2)).1 = 0 then (settled r.2, (0, 0)) else ([], checkS (settled r.2)) := by
      unfold readP
      rw [if_neg h8, hr, if_neg (by simp [h0])]
      rfl
    cases hs : settleP r.2 with
    | some i =>
      rw [hs] at he
      rw [he]
      exact .inl ⟨(show (6 : Int) ≠ 0 by decide), rfl⟩
    | none =>
      rw [hs] at he
      simp only at he
      by_cases hc : (checkS (settled r.2)).1 = 0
      · rw [if_pos hc] at he
        rw [he]
        refine .inr ⟨rfl, hc, fun m hm => ?_⟩
        unfold settled at hm
        obtain ⟨x, hx, rfl⟩ := List.mem_map.1 hm
        have hxo := (hok.1 x hx).1
        unfold settleP at hs
        rw [List.findIdx?_eq_none_iff] at hs
        have hl := hs x hx
        unfold setP
        unfold lostP at hl
        cases hg : x.goal with
        | none => exact hxo
        | some g =>
          rw [hg] at hl
          simp only at hl ⊢
          cases hp : placeP r.2.labs g with
          | none => rw [hp] at hl; cases hl
          | some at_ =>
            rw [hp] at hl
            simp only [decide_eq_false_iff_not] at hl
            have h2 := hok.2.1
            refine ⟨hxo.op, hxo.dst, hxo.a, hxo.b, ?_⟩
            simp only [Option.getD_some]
            exact ⟨by omega, by omega⟩
      · rw [if_neg hc] at he
        rw [he]
        exact .inl ⟨hc, rfl⟩
  · have : readP t = ([], (r.1.1, ((r.1.2 : Nat) : Int))) := by
      unfold readP
      rw [if_neg h8, hr, if_pos h0]
    rw [this]
    exact .inl ⟨h0, rfl⟩
theorem ret_text : txtF [⟨45, 0, 0, 0, 0⟩] = [32, 32, 114, 101, 116, 117, 114, 110, 10] := by decide +kernel
theorem ret_check : checkS [⟨45, 0, 0, 0, 0⟩] = (0, 0) := by decide +kernel
theorem ret_at (W : World) : MacsAt (W.alloc (.cells #[.int .i64 45, .int .i64 0, .int .i64 0, .int .i64 0, .int .i64 0] 39)) (W.heap.size + 1) (.slice (some ⟨W.heap.size, 0, none⟩) 1 1) [⟨45, 0, 0, 0, 0⟩] := by
  have hb := Blk.new W 39 #[.int .i64 45, .int .i64 0, .int .i64 0, .int .i64 0, .int .i64 0]
  refine ⟨_, _, rfl, by decide, by decide, fun _ => ⟨_, 0, rfl, by omega, fun k m hk => ?_⟩⟩
  obtain rfl : k = 0 := by have := (List.getElem?_eq_some_iff.1 hk).1; simp at this; omega
  simp only [List.getElem?_cons_zero, Option.some.injEq] at hk
  subst hk
  exact ⟨hb.cell 0, hb.cell 1, hb.cell 2, hb.cell 3, hb.cell 4⟩
theorem ret_ok : ∀ m ∈ [(⟨45, 0, 0, 0, 0⟩ : Mac)], m.ok := fun m h => by
  rw [List.mem_singleton] at h
  subst h
  exact ⟨⟨by decide, by decide⟩, ⟨by decide, by decide⟩, ⟨by decide, by decide⟩, ⟨by decide, by decide⟩, ⟨by decide, by decide⟩⟩
set_option maxRecDepth 100000 in
set_option maxHeartbeats 4000000 in
theorem AsmFixed_any (t : List UInt8) (ht : t.length ≤ 9223372036854775807) (w : World) (hS : Std w) :
    Calls Tryz.prog 6 #[.string (mkS t)] w fun e w' => e = .returned (.bool true) ∧ Below w.heap.size w w' := by
  have hsays := read_says t
  obtain ⟨ms, hms⟩ : ∃ ms, (readP t).1 = ms := ⟨_, rfl⟩
  obtain ⟨uc, huc⟩ : ∃ uc, (readP t).2.1 = uc := ⟨_, rfl⟩
  obtain ⟨ua, hua⟩ : ∃ ua, (readP t).2.2 = ua := ⟨_, rfl⟩
  have HE : Hid (readP t = (ms, (uc, ua))) := Lib.hid (by rw [← hms, ← huc, ← hua])
  rw [HE.out] at hsays
  have HSy := Lib.hid hsays
  have HS := Lib.hid hS
  have HA := Lib.hid (AsmRead_any t ht w hS)
  rw [HE.out] at HA
  clear hsays hS hms huc hua ht
  go_enter Tryz.func6, Tryz.ntmps6
  go_wp2_with fail
  refine HA.out.mono ?_
  rintro e W1 ⟨⟨v1, rfl, ho1⟩, hb1⟩
  have HB2 : Hid (Below w.heap.size w (W1.alloc (.cells #[.int .i64 uc, .int .i64 ua] 24))) := Lib.hid (hb1.alloc hb1.size _)
  have HF2 : Hid (Blk (W1.alloc (.cells #[.int .i64 uc, .int .i64 ua] 24)) W1.heap.size 24 #[.int .i64 uc, .int .i64 ua]) := Lib.hid (Blk.new _ _ _)
  have HV2 : Hid (OwnMacs (W1.alloc (.cells #[.int .i64 uc, .int .i64 ua] 24)) w.heap.size v1 ms) := Lib.hid (World.ownsRow.alloc ho1 _)
  clear hb1 ho1 HA
  go_upto_region 2 with fail
  generalize W1.alloc (.cells #[.int .i64 uc, .int .i64 ua] 24) = W2 at *
  generalize W1.heap.size = g4 at *
  obtain ⟨W3, hW3⟩ : ∃ W3, W3 = W2.alloc (.cells #[.int .i64 45, .int .i64 0, .int .i64 0, .int .i64 0, .int .i64 0] 39) := ⟨_, rfl⟩
  have hz3 : W3.heap.size = W2.heap.size + 1 := by rw [hW3]; simp
  have HB3 : Hid (Below w.heap.size w W3) := Lib.hid (by rw [hW3]; exact HB2.out.alloc HB2.out.size _)
  have HT := Lib.hid (Text_any (.slice (some ⟨W2.heap.size, 0, none⟩) 1 1) [⟨45, 0, 0, 0, 0⟩] W3 (by rw [hz3, hW3]; exact ret_at W2) ret_ok (HS.out.own HB3.out).tab (HS.out.own HB3.out).pow (HS.out.own HB3.out).wrd)
  rw [ret_check, ret_text] at HT
  have HF3 : Hid (Blk W3 g4 24 #[.int .i64 uc, .int .i64 ua]) := Lib.hid (by rw [hW3]; exact HF2.out.alloc _)
  have HV3 : Hid (OwnMacs W3 w.heap.size v1 ms) := Lib.hid (by rw [hW3]; exact World.ownsRow.alloc HV2.out _)
  rw [hW3] at HT
  clear hz3
  go_wp2_with fail
  refine HT.out.mono ?_
  rw [← hW3]
  clear hW3 HT HB2 HF2 HV2
  rintro e W4 ⟨rfl, hb4⟩
  have hz := HB3.out.size
  have HB5 : Hid (Below w.heap.size w (W4.alloc (.cells #[.int .i64 0, .int .i64 0] 24))) := Lib.hid ((HB3.out.trans (hb4.mono hz)).alloc (Nat.le_trans hz hb4.size) _)
  have HF5 := Lib.hid ((HF3.out.below hb4 HF3.out.lt).alloc (.cells #[.int .i64 0, .int .i64 0] 24))
  have HG5 : Hid (Blk (W4.alloc (.cells #[.int .i64 0, .int .i64 0] 24)) W4.heap.size 24 #[.int .i64 0, .int .i64 0]) := Lib.hid (Blk.new _ _ _)
  have HV5 : Hid (OwnMacs (W4.alloc (.cells #[.int .i64 0, .int .i64 0] 24)) w.heap.size v1 ms) := Lib.hid (World.ownsRow.alloc (HV3.out.below hb4 rfl) _)
  clear hb4 hz HB3 HF3 HV3
  go_upto_region 3 with fail
  generalize W4.alloc (.cells #[.int .i64 0, .int .i64 0] 24) = W5 at *
  generalize W4.heap.size = g5 at *
  have x0 := HF5.out.cell 0
  have y0 := HG5.out.cell 0
  have q1 : ((mkS [32, 32, 114, 101, 116, 117, 114, 110, 10]).toList == [32, 32, 114, 101, 116, 117, 114, 110, 10]) = true := by rw [mkS_toList]; rfl
  obtain ⟨A1, c1, rfl, hc1, hc2, _⟩ := HV5.out.macs
  obtain ⟨n, hn⟩ : ∃ n, ms.length = n := ⟨_, rfl⟩
  have Hn := Lib.hid hn
  rw [hn] at hc1 hc2 ⊢
  by_cases hu : uc = 0
  · have hfine := HSy.out.resolve_left (fun h => h.1 hu)
    have hck := hfine.2.1
    have hok := hfine.2.2
    have Hck := Lib.hid hck
    have Hok := Lib.hid hok
    subst hu
    clear hfine hck hok hn
    by_cases hl : n > 200
    · have hl' : (n : Int) > 200 := by omega
      clear hl
      go_wp2_with fail
      go_ret
      exact ⟨rfl, HB5.out⟩
    · have hl' : ¬ (n : Int) > 200 := by omega
      have htl := text_len20 Hok.out (by have := Hn.out; omega) (Nat.le_refl ms.length)
      have hrd : readP (textL Lib.itoa ms) = (ms, (0, 0)) := read_text Hck.out Hok.out (Spread.self _) (by unfold textL; have := Hn.out; omega)
      have htx : txtF ms = textL Lib.itoa ms := by unfold txtF; rw [Hck.out, if_pos rfl]
      obtain ⟨s, hs⟩ : ∃ s, textL Lib.itoa ms = s := ⟨_, rfl⟩
      have hl2 : s.length ≤ 9223372036854775807 := by rw [← hs]; unfold textL; have := Hn.out; omega
      rw [hs] at hrd htx
      have Hrd := Lib.hid hrd
      have Htx := Lib.hid htx
      have Hl2 := Lib.hid hl2
      have HT := Lib.hid (Text_any _ ms W5 HV5.out.macs Hok.out (HS.out.own HB5.out).tab (HS.out.own HB5.out).pow (HS.out.own HB5.out).wrd)
      rw [check_zero Hck.out, Htx.out, Hn.out] at HT
      clear hl htl hrd htx hs hl2
      go_wp2_with fail
      refine HT.out.mono ?_
      rintro e W6 ⟨rfl, hb6⟩
      have hz := HB5.out.size
      have HB7 : Hid (Below w.heap.size w (W6.alloc (.cells #[.int .i64 0, .int .i64 0] 24))) := Lib.hid ((HB5.out.trans (hb6.mono hz)).alloc (Nat.le_trans hz hb6.size) _)
      have HF7 : Hid (Blk (W6.alloc (.cells #[.int .i64 0, .int .i64 0] 24)) W6.heap.size 24 #[.int .i64 0, .int .i64 0]) := Lib.hid (Blk.new _ _ _)
      have HV7 : Hid (OwnMacs (W6.alloc (.cells #[.int .i64 0, .int .i64 0] 24)) w.heap.size (.slice A1 ms.length c1) ms) := Lib.hid (World.ownsRow.alloc (HV5.out.below hb6 rfl) _)
      rw [Hn.out] at HV7
      clear hb6 hz HT HB5 HF5 HG5 HV5 x0 y0
      go_upto_region 10 with fail
      generalize W6.alloc (.cells #[.int .i64 0, .int .i64 0] 24) = W7 at *
      generalize W6.heap.size = g7 at *
      have HR := Lib.hid (AsmRead_any s Hl2.out W7 (HS.out.own HB7.out))
      rw [Hrd.out] at HR
      go_wp2_with fail
      refine HR.out.mono ?_
      rintro e W8 ⟨⟨v2, rfl, ho2⟩, hb8⟩
      have hz := HB7.out.size
      have HB9 : Hid (Below w.heap.size w (W8.alloc (.cells #[.int .i64 0, .int .i64 0] 24))) := Lib.hid ((HB7.out.trans (hb8.mono hz)).alloc (Nat.le_trans hz hb8.size) _)
      have HF9 := Lib.hid ((HF7.out.below hb8 HF7.out.lt).alloc (.cells #[.int .i64 0, .int .i64 0] 24))
      have HG9 : Hid (Blk (W8.alloc (.cells #[.int .i64 0, .int .i64 0] 24)) W8.heap.size 24 #[.int .i64 0, .int .i64 0]) := Lib.hid (Blk.new _ _ _)
      have HV9 : Hid (OwnMacs (W8.alloc (.cells #[.int .i64 0, .int .i64 0] 24)) w.heap.size (.slice A1 n c1) ms) := Lib.hid (World.ownsRow.alloc (HV7.out.below hb8 rfl) _)
      have HU9 : Hid (OwnMacs (W8.alloc (.cells #[.int .i64 0, .int .i64 0] 24)) W7.heap.size v2 ms) := Lib.hid (World.ownsRow.alloc ho2 _)
      clear hb8 hz ho2 HR HB7 HF7 HV7
      go_upto_region 11 with fail
      generalize W8.alloc (.cells #[.int .i64 0, .int .i64 0] 24) = W9 at *
      generalize W8.heap.size = g9 at *
      have HSm := Lib.hid (SameMacs_any v2 (.slice A1 n c1) ms ms W9 HU9.out.macs HV9.out.macs)
      have x0 := HF9.out.cell 0
      have y0 := HG9.out.cell 0
      go_wp2_with fail
      refine HSm.out.mono ?_
      rintro e Wa ⟨rfl, hba⟩
      have HBa := Lib.hid (HB9.out.trans (hba.mono HB9.out.size))
      rw [show (decide True : Bool) = true from rfl]
      clear hba HSm
      go_wp2_with fail
      go_ret
      exact ⟨rfl, HBa.out⟩
  · have hnil := (HSy.out.resolve_right (fun h => hu (by have := congrArg Prod.fst h.1; exact this))).2
    have hn0 : n = 0 := by rw [← hn, hnil]; rfl
    subst hn0
    have hub : (uc == 0) = false := by simpa using hu
    have hub2 : (uc != 0) = true := by simpa using hu
    clear hnil hn hu
    go_wp2_with fail
    go_ret
    exact ⟨rfl, HB5.out⟩
end Go.Proofs.YtdldochhondifaaGreatDoor
