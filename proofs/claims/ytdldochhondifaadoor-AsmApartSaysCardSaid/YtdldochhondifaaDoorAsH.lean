/-
  The reference's text of code.
  Conditions: the code's instructions are known ones; routines are named by a list, or by their numbers where it is empty.
-/
import Derived.Test.YtdldochhondifaaDoorAsG
import Derived.Test.YtdldochhondifaaDoorAsD
namespace Go.Proofs.YtdldochhondifaaDoor
open Go.RowKit
attribute [local go_sem] Oper.semAt_some

theorem has_t {op : Int} (h : isOp op = true) : hasS (fldS op) 116 = (shK op == 2) := by
  obtain ⟨h1, h2⟩ := (isOp_iff op).1 h
  by_cases hA : 5 ≤ op ∧ op ≤ 18
  · rw [(sh_two op hA).2.2.2, fld_two op hA]; decide
  by_cases hB : 19 ≤ op ∧ op ≤ 32
  · rw [(sh_num op hB).2.2.2, fld_num op hB]; decide
  by_cases hC : 40 ≤ op ∧ op ≤ 43
  · rw [(sh_jmp op hC).2.2.2, fld_jmp op hC]; decide
  obtain rfl | rfl | rfl | rfl | rfl | rfl | rfl | rfl | rfl | rfl | rfl | rfl | rfl | rfl | rfl :
    op = 1 ∨ op = 2 ∨ op = 3 ∨ op = 4 ∨ op = 33 ∨ op = 34 ∨ op = 35 ∨ op = 36 ∨ op = 37 ∨ op = 38 ∨ op = 39 ∨ op = 44 ∨ op = 45 ∨ op = 46 ∨ op = 47 := by omega
  all_goals decide
set_option maxRecDepth 100000 in
set_option maxHeartbeats 16000000 in
theorem asmText_any (v nv : Value) (nl : List (List UInt8)) (ms : List Mac) (w : World) (hv : MacsAt w w.heap.size v ms) (hok : ∀ m ∈ ms, m.ok) (hop : ∀ m ∈ ms, isOp m.op = true)
    (hnv : StrsAt w w.heap.size nv nl) (hn : 0 < nl.length → ∀ m ∈ ms, shK m.op = 4 → 0 ≤ m.n ∧ m.n < (nl.length : Int)) (hr : ∀ m ∈ ms, (rtN nl m.n).length ≤ 100) (hl0 : 0 < ms.length) (hl : ms.length ≤ 100000) :
    Calls Tryd.prog 13 #[v, nv] w fun e w' => e = .returned (.string (mkS (textL (rtN nl) ms))) ∧ Below w.heap.size w w' := by
  obtain ⟨A, c, rfl, h1, h2, h3⟩ := hv
  obtain ⟨b, off, rfl, hbw, hcell⟩ := h3 hl0
  have HC := Lib.hid hcell
  have Hok := Lib.hid hok
  have Hop := Lib.hid hop
  have HN := Lib.hid hnv
  have Hnm := Lib.hid hn
  have Hr := Lib.hid hr
  obtain ⟨n, hn'⟩ : ∃ n, ms.length = n := ⟨_, rfl⟩
  have Hn := Lib.hid hn'
  rw [hn'] at h1 h2 hl0 hl ⊢
  have HLen : Hid (∀ j, j ≤ n → (textTo (rtN nl) ms j).length ≤ 43000000) := Lib.hid (fun j hj => by
    have := textTo_len (rt := rtN nl) (l := ms) hok hr (by omega) (k := j) (by omega)
    omega)
  clear hcell hok hop hr hn h3 hn' hnv
  go_enter Tryd.func13, Tryd.ntmps13
  go_upto_region 3 with fail
  go_loopg [5, 6] n (fun gk ov iv wx => ∃ (j : Nat) (Wx : World), Wx = wx ∧ ov = .string (mkS (textTo (rtN nl) ms j)) ∧ iv = .int .i64 (j : Int) ∧ j + gk = n ∧ Hid (Below w.heap.size w wx))
  case atStart => exact ⟨0, _, rfl, by rw [textTo_zero]; rfl, rfl, by omega, Lib.hid (Below.refl _ _)⟩
  case round =>
    obtain ⟨j, Wx, rfl, rfl, rfl, hj, HBx⟩ := hrel
    rcases gk with _ | nk
    · obtain rfl : j = n := by omega
      have hjn : ¬ (j : Int) < (j : Int) := by omega
      go_wp2_with fail
      go_ret
      refine ⟨?_, HBx.out⟩
      unfold textL
      rw [Hn.out]
      rfl
    · have hjn : (j : Int) < (n : Int) := by omega
      have hj0 : (0 : Int) ≤ (j : Int) := Int.natCast_nonneg j
      have hjl : j < n := by omega
      go_upto_region 7 with fail
      go_loopg [7, 8] n (fun gt mv kv wy => ∃ (t : Nat) (Wy : World), Wy = wy ∧ mv = .bool (markL (ms.take t) j) ∧ kv = .int .i64 (t : Int) ∧ t + gt = n ∧ Hid (Below w.heap.size w wy))
      case atStart => exact ⟨0, _, rfl, by rw [markL_take_zero], rfl, by omega, HBx⟩
      case round =>
        clear HBx
        obtain ⟨t, Wy, rfl, rfl, rfl, ht, HBy⟩ := hrel
        rcases gk with _ | nt
        · obtain rfl : t = n := by omega
          have htn : ¬ (t : Int) < (t : Int) := by omega
          have hall : ms.take t = ms := by rw [← Hn.out, List.take_length]
          rw [hall]
          clear hall
          obtain ⟨mk, hmk⟩ : ∃ mk, markL ms j = mk := ⟨_, rfl⟩
          rw [hmk]
          have Hmk := Lib.hid hmk
          obtain ⟨m, hm⟩ : ∃ m, ms[j]? = some m := ⟨ms[j]'(by rw [Hn.out]; omega), List.getElem?_eq_getElem _⟩
          have hmem := List.mem_of_getElem? hm
          have hmok := Hok.out m hmem
          have hmop := Hop.out m hmem
          have HmN := Lib.hid (fun h => Hnm.out h m hmem)
          have hmr := Hr.out m hmem
          have Hm := Lib.hid hm
          obtain ⟨T0, hT0⟩ : ∃ T0, textTo (rtN nl) ms j = T0 := ⟨_, rfl⟩
          have hT0l : T0.length ≤ 43000000 := by rw [← hT0]; exact HLen.out j (by omega)
          rw [hT0]
          obtain ⟨T1, hT1⟩ : ∃ T1, T0 ++ (if markL ms j then labelL j else []) = T1 := ⟨_, rfl⟩
          obtain ⟨T2, hT2⟩ : ∃ T2, T1 ++ lineL (rtN nl) m = T2 := ⟨_, rfl⟩
          have HT2 : Hid (textTo (rtN nl) ms (j + 1) = T2) := Lib.hid (by
            rw [textTo_succ, hT0, ← hT2, ← hT1, List.append_assoc]
            unfold pieceL
            rw [List.getD_eq_getElem?_getD, hm]
            rfl)
          rw [hmk] at hT1
          have hT1l : T1.length ≤ 43000040 := by
            rw [← hT1, List.length_append]
            split
            · have hil := itoa_len (n := (j : Int)) ⟨by omega, by omega⟩
              unfold labelL
              simp only [List.length_append, List.length_cons, List.length_nil]
              omega
            · simp; omega
          have hll := line_len hmok hmr
          have HT1 := Lib.hid hT1
          have z0 : (mkS T0).size ≤ 43000000 := by rw [mkS_size]; exact hT0l
          have z1 : (mkS T1).size ≤ 43000040 := by rw [mkS_size]; exact hT1l
          have zl : (mkS (lineL (rtN nl) m)).size ≤ 400 := by rw [mkS_size]; exact hll
          have ql : ¬ (mkS T1).size + (mkS (lineL (rtN nl) m)).size > 9223372036854775807 := by omega
          have el : mkS T1 ++ mkS (lineL (rtN nl) m) = mkS T2 := by rw [← hT2]; exact mkS_append _ _
          clear hm hmem hmk hT0 hT1 hT2 hT0l hT1l hll z1 zl
          go_upto_if 37 with fail
          go_cut [5] (fun sv wz => sv = .string (mkS T1) ∧ Wy = wz)
          case first =>
            cases mk with
            | false =>
              have e : T0 = T1 := by rw [← HT1.out]; simp
              subst e
              go_wp2_with fail
              go_meet
              exact ⟨rfl, rfl⟩
            | true =>
              have hjI : I64 (j : Int) := ⟨by omega, by omega⟩
              have HD := Lib.hid (Digits_any (j : Int) hjI Wy)
              have hil := itoa_len hjI
              have y1 : (mkS (Lib.itoa (j : Int))).size ≤ 20 := by rw [mkS_size]; exact hil
              have y2 : (mkS (76 :: Lib.itoa (j : Int))).size ≤ 21 := by rw [mkS_size, List.length_cons]; omega
              have y3 : (mkS (labelL j)).size ≤ 30 := by
                rw [mkS_size]
                unfold labelL
                simp only [List.length_append, List.length_cons, List.length_nil]
                omega
              have q1 : ¬ 1 + (mkS (Lib.itoa (j : Int))).size > 9223372036854775807 := by omega
              have q2 : ¬ (mkS (76 :: Lib.itoa (j : Int))).size + 2 > 9223372036854775807 := by omega
              have q3 : ¬ (mkS T0).size + (mkS (labelL j)).size > 9223372036854775807 := by omega
              have e1 : ({ data := #[76] } : ByteArray) ++ mkS (Lib.itoa (j : Int)) = mkS (76 :: Lib.itoa (j : Int)) := mkS_append [76] _
              have e2 : mkS (76 :: Lib.itoa (j : Int)) ++ ({ data := #[58, 10] } : ByteArray) = mkS (labelL j) := mkS_append _ [58, 10]
              have e3 : mkS T0 ++ mkS (labelL j) = mkS T1 := by rw [← HT1.out]; exact mkS_append _ _
              clear hil y1 y2 y3 z0 ql el
              go_wp2_with fail
              refine HD.out.mono ?_
              rintro e w' ⟨rfl, rfl⟩
              go_wp2_with fail
              go_meet
              exact ⟨rfl, rfl⟩
          case rest =>
            obtain ⟨rfl, rfl⟩ := hcut
            obtain ⟨c0, c1, c2, c3, c4⟩ := (HC.out j m Hm.out).below HBy.out hbw
            have HL := Lib.hid (asmLine_any m hmok hmop _ nl Wy (HN.out.below HBy.out (Nat.le_refl _) |>.more HBy.out.size) HmN.out hmr)
            clear z0
            go_wp2_with fail
            refine HL.out.mono ?_
            rintro e W3 ⟨rfl, hb3⟩
            have HB3 := Lib.hid (HBy.out.trans (hb3.mono HBy.out.size))
            clear hb3 HL c0 c1 c2 c3 c4
            go_wp2_with fail
            go_roundg nk
            case measure => omega
            case rel => exact ⟨j + 1, _, rfl, by rw [HT2.out], by go_num, by omega, HB3⟩
        · have htn : (t : Int) < (n : Int) := by omega
          have ht0 : (0 : Int) ≤ (t : Int) := Int.natCast_nonneg t
          obtain ⟨m, hm⟩ : ∃ m, ms[t]? = some m := ⟨ms[t]'(by rw [Hn.out]; omega), List.getElem?_eq_getElem _⟩
          have hmem := List.mem_of_getElem? hm
          have hmop := Hop.out m hmem
          have HS := Lib.hid (markL_take_succ hm j)
          obtain ⟨c0, c1, c2, c3, c4⟩ := (HC.out t m hm).below HBy.out hbw
          have HFl := Lib.hid (Fields_any m.op Wy)
          have hfs := fld_size m.op
          have hht := has_t hmop
          clear hm hmem c1 c2 c3
          go_wp2_with fail
          refine HFl.out.mono ?_
          rintro e W3 ⟨rfl, hb3⟩
          have HB3 := Lib.hid (HBy.out.trans (hb3.mono HBy.out.size))
          have HHs := Lib.hid (Has_any (fldS m.op) 116 W3 (by omega))
          have c4' := (bcell (hb3.mono HBy.out.size) hbw).trans c4
          clear hb3 HFl c0 c4
          cases hb : (shK m.op == 2) with
          | false =>
            rw [hht, hb] at HHs
            have hmt : markL (ms.take (t + 1)) j = markL (ms.take t) j := by rw [HS.out, hb]; simp
            have HMt := Lib.hid hmt
            clear hb hht hmt hfs
            go_wp2_with fail
            refine HHs.out.mono ?_
            rintro e w' ⟨rfl, rfl⟩
            go_wp2_with fail
            go_roundg nt
            case measure => omega
            case rel => exact ⟨t + 1, _, rfl, by rw [HMt.out], by go_num, by omega, HB3⟩
          | true =>
            rw [hht, hb] at HHs
            by_cases hmn : m.n = (j : Int)
            · have hmt : markL (ms.take (t + 1)) j = true := by rw [HS.out, hb, hmn]; simp
              have HMt := Lib.hid hmt
              clear hb hht hmt hfs
              go_wp2_with fail
              refine HHs.out.mono ?_
              rintro e w' ⟨rfl, rfl⟩
              go_wp2_with fail
              go_roundg nt
              case measure => omega
              case rel => exact ⟨t + 1, _, rfl, by rw [HMt.out], by go_num, by omega, HB3⟩
            · have hmb : (m.n == (j : Int)) = false := beq_eq_false_iff_ne.2 hmn
              have hmt : markL (ms.take (t + 1)) j = markL (ms.take t) j := by rw [HS.out, hb, hmb]; simp
              have HMt := Lib.hid hmt
              clear hb hht hmt hmn hfs
              go_wp2_with fail
              refine HHs.out.mono ?_
              rintro e w' ⟨rfl, rfl⟩
              go_wp2_with fail
              go_roundg nt
              case measure => omega
              case rel => exact ⟨t + 1, _, rfl, by rw [HMt.out], by go_num, by omega, HB3⟩
end Go.Proofs.YtdldochhondifaaDoor
