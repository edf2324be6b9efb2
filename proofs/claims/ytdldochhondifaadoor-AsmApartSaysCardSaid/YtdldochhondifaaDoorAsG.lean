/-
  The reference's line of an instruction.
  Conditions: the instruction is a known one; routines are named by a list, or by their numbers where it is empty.
-/
import Derived.Test.YtdldochhondifaaDoorAsF
namespace Go.Proofs.YtdldochhondifaaDoor
open Go.RowKit
attribute [local go_sem] Oper.semAt_some

/-- The slice value v reads as the texts ss, below block B. -/
def StrsAt (w : World) (B : Nat) (v : Value) (ss : List (List UInt8)) : Prop :=
  ∃ (A : Option Addr) (c : Nat), v = .slice A ss.length c ∧ ss.length ≤ c ∧ c ≤ 9223372036854775807 ∧
    (0 < ss.length → ∃ b off, A = some ⟨b, off, none⟩ ∧ b < B ∧ ∀ (k : Nat) (x : List UInt8), ss[k]? = some x → w.cell? ⟨b, off + k, none⟩ = some (.string (mkS x)))
theorem StrsAt.nil (w : World) (B : Nat) : StrsAt w B (.slice none 0 0) [] := ⟨none, 0, rfl, by simp, by omega, fun h => by simp at h⟩
theorem StrsAt.below {W w1 : World} {B B' : Nat} {v : Value} {ss : List (List UInt8)} (h : StrsAt W B v ss) (hb : Below B' W w1) (hB : B ≤ B') : StrsAt w1 B v ss := by
  obtain ⟨A, c, e, h1, h2, h3⟩ := h
  refine ⟨A, c, e, h1, h2, fun hl => ?_⟩
  obtain ⟨b, off, e1, e2, e3⟩ := h3 hl
  exact ⟨b, off, e1, e2, fun k m hk => (bcell hb (Nat.lt_of_lt_of_le e2 hB)).trans (e3 k m hk)⟩
theorem StrsAt.more {w : World} {B B' : Nat} {v : Value} {ss : List (List UInt8)} (h : StrsAt w B v ss) (hB : B ≤ B') : StrsAt w B' v ss := by
  obtain ⟨A, c, e, h1, h2, h3⟩ := h
  refine ⟨A, c, e, h1, h2, fun hl => ?_⟩
  obtain ⟨b, off, e1, e2, e3⟩ := h3 hl
  exact ⟨b, off, e1, by omega, e3⟩
/-- How a routine is named. -/
def rtN (nl : List (List UInt8)) (n : Int) : List UInt8 := if nl.length = 0 then Lib.itoa n else nl.getD n.toNat []
def sepL (i : Nat) : List UInt8 := if i = 0 then [32] else [44, 32]
def outTo (rt : Int → List UInt8) (m : Mac) (k : Nat) : List UInt8 := [32, 32] ++ wordL m.op ++ ((List.range k).map fun i => sepL i ++ partL m rt ((ordL m.op).getD i 0)).flatten
theorem outTo_zero (rt : Int → List UInt8) (m : Mac) : outTo rt m 0 = [32, 32] ++ wordL m.op := by unfold outTo; simp
theorem outTo_succ (rt : Int → List UInt8) (m : Mac) (k : Nat) : outTo rt m (k + 1) = outTo rt m k ++ sepL k ++ partL m rt ((ordL m.op).getD k 0) := by
  unfold outTo
  rw [List.range_succ, List.map_append, List.flatten_append]
  simp [List.append_assoc]
theorem outTo_all (rt : Int → List UInt8) (m : Mac) : outTo rt m (ordL m.op).length ++ [10] = lineL rt m := by
  unfold outTo lineL partsL
  have h := ord_len m.op
  generalize ordL m.op = o at h ⊢
  match o, h with
  | [], _ => simp
  | [a], _ => simp [List.range_succ, sepL, Lib.join_one]
  | [a, b], _ => simp [List.range_succ, sepL, Lib.join_cons, Lib.joinTail]
  | [a, b, c], _ => simp [List.range_succ, sepL, Lib.join_cons, Lib.joinTail]
  | a :: b :: c :: d :: r, h => exact absurd h (by simp)
theorem outTo_len {m : Mac} {rt : Int → List UInt8} (hm : m.ok) (hr : (rt m.n).length ≤ 100) : ∀ (k : Nat), (outTo rt m k).length ≤ 8 + 102 * k
  | 0 => by
    rw [outTo_zero, List.length_append]
    have := word_len m.op
    simp
    omega
  | k + 1 => by
    rw [outTo_succ, List.length_append, List.length_append]
    have h1 := outTo_len hm hr k
    have h2 := part_len (rt := rt) hm hr ((ordL m.op).getD k 0)
    have h3 : (sepL k).length ≤ 2 := by unfold sepL; split <;> simp
    omega
theorem ord_letters {op : Int} (h : isOp op = true) : ∀ c ∈ ordL op, c = 100 ∨ c = 97 ∨ c = 98 ∨ c = 116 ∨ (c = 114 ∧ shK op = 4) ∨ c = 110 ∨ c = 119 := by
  obtain ⟨h1, h2⟩ := (isOp_iff op).1 h
  by_cases hA : 5 ≤ op ∧ op ≤ 18
  · have e : ordL op = [100, 97, 98] := by unfold ordL fldL; rw [if_neg (by omega), if_neg (by omega), if_pos hA]
    rw [e]
    intro c hc
    simp only [List.mem_cons, List.not_mem_nil, or_false] at hc
    rcases hc with rfl | rfl | rfl <;> simp
  by_cases hB : 19 ≤ op ∧ op ≤ 32
  · have e : ordL op = [100, 97, 110] := by unfold ordL fldL; rw [if_neg (by omega), if_neg (by omega), if_neg (by omega), if_pos hB]
    rw [e]
    intro c hc
    simp only [List.mem_cons, List.not_mem_nil, or_false] at hc
    rcases hc with rfl | rfl | rfl <;> simp
  by_cases hC : 40 ≤ op ∧ op ≤ 43
  · have e : ordL op = [97, 98, 116] := by unfold ordL fldL; rw [if_neg (by omega), if_neg (by omega), if_neg (by omega), if_neg (by omega), if_pos hC]
    rw [e]
    intro c hc
    simp only [List.mem_cons, List.not_mem_nil, or_false] at hc
    rcases hc with rfl | rfl | rfl <;> simp
  obtain rfl | rfl | rfl | rfl | rfl | rfl | rfl | rfl | rfl | rfl | rfl | rfl | rfl | rfl | rfl :
    op = 1 ∨ op = 2 ∨ op = 3 ∨ op = 4 ∨ op = 33 ∨ op = 34 ∨ op = 35 ∨ op = 36 ∨ op = 37 ∨ op = 38 ∨ op = 39 ∨ op = 44 ∨ op = 45 ∨ op = 46 ∨ op = 47 := by omega
  all_goals decide
set_option maxRecDepth 100000 in
set_option maxHeartbeats 16000000 in
theorem asmLine_any (m : Mac) (hm : m.ok) (hop : isOp m.op = true) (nv : Value) (nl : List (List UInt8)) (w : World) (hnv : StrsAt w w.heap.size nv nl) (hn : 0 < nl.length → shK m.op = 4 → 0 ≤ m.n ∧ m.n < (nl.length : Int)) (hr : (rtN nl m.n).length ≤ 100) :
    Calls Tryd.prog 32 #[.agg #[.int .i64 m.op, .int .i64 m.dst, .int .i64 m.a, .int .i64 m.b, .int .i64 m.n], nv] w fun e w' => e = .returned (.string (mkS (lineL (rtN nl) m))) ∧ Below w.heap.size w w' := by
  have HN := Lib.hid hnv
  obtain ⟨nA, nc, rfl, n1, n2, n3⟩ := hnv
  have HNc := Lib.hid n3
  have Hnr := Lib.hid hn
  obtain ⟨nn, hnn⟩ : ∃ nn, nl.length = nn := ⟨_, rfl⟩
  have Hnn := Lib.hid hnn
  rw [hnn] at n1 ⊢
  have HB0 : Hid (Below w.heap.size w (w.alloc (.cells #[.int .i64 m.op, .int .i64 m.dst, .int .i64 m.a, .int .i64 m.b, .int .i64 m.n] 57))) := Lib.hid ((Below.refl _ _).alloc (Nat.le_refl _) _)
  have HM0 : Hid (Blk (w.alloc (.cells #[.int .i64 m.op, .int .i64 m.dst, .int .i64 m.a, .int .i64 m.b, .int .i64 m.n] 57)) w.heap.size 57 #[.int .i64 m.op, .int .i64 m.dst, .int .i64 m.a, .int .i64 m.b, .int .i64 m.n]) := Lib.hid (Blk.new w _ _)
  obtain ⟨fl, hfl⟩ : ∃ fl, (ordL m.op).length = fl := ⟨_, rfl⟩
  have Hfl := Lib.hid hfl
  have hfl3 : fl ≤ 3 := by rw [← hfl]; exact ord_len _
  obtain ⟨s, hs⟩ : ∃ s, mkS (ordL m.op) = s := ⟨_, rfl⟩
  have Hs := Lib.hid hs
  have hsz : s.size = fl := by rw [← hs, mkS_size, hfl]
  have HLet := Lib.hid (ord_letters hop)
  have HEnd : Hid (outTo (rtN nl) m fl ++ [10] = lineL (rtN nl) m) := Lib.hid (by rw [← hfl]; exact outTo_all _ _)
  have HOl : Hid (∀ k, (outTo (rtN nl) m k).length ≤ 8 + 102 * k) := Lib.hid (outTo_len hm hr)
  have HO0 : Hid (outTo (rtN nl) m 0 = [32, 32] ++ wordL m.op) := Lib.hid (outTo_zero _ _)
  clear n3 hn hnn hfl hs
  go_enter Tryd.func32, Tryd.ntmps32
  go_upto_region 1 with fail
  generalize w.alloc (.cells #[.int .i64 m.op, .int .i64 m.dst, .int .i64 m.a, .int .i64 m.b, .int .i64 m.n] 57) = W0 at *
  have m0 := HM0.out.cell 0
  have HWo := Lib.hid (asmWord_any m.op hop W0)
  have hwl := word_len m.op
  have hz0 : (mkS (wordL m.op)).size ≤ 6 := by rw [mkS_size]; exact hwl
  have q0 : ¬ 2 + (mkS (wordL m.op)).size > 9223372036854775807 := by omega
  have e0 : ({ data := #[32, 32] } : ByteArray) ++ mkS (wordL m.op) = mkS (outTo (rtN nl) m 0) := by rw [HO0.out]; exact mkS_append [32, 32] _
  go_wp2_with fail
  refine HWo.out.mono ?_
  rintro e W1 ⟨rfl, hb1⟩
  have HB1 := Lib.hid (HB0.out.trans (hb1.mono HB0.out.size))
  have HM1 := Lib.hid (HM0.out.below hb1 HM0.out.lt)
  clear m0 HWo hwl hz0 hb1 HB0 HM0
  go_upto_region 2 with fail
  clear q0 e0
  have m0 := HM1.out.cell 0
  have HOr := Lib.hid (asmOrder_any m.op W1)
  go_wp2_with fail
  refine HOr.out.mono ?_
  rintro e W2 ⟨rfl, hb2⟩
  rw [Hs.out]
  have HB2 := Lib.hid (HB1.out.trans (hb2.mono HB1.out.size))
  have HM2 := Lib.hid (HM1.out.below hb2 HM1.out.lt)
  clear m0 HOr hb2 HB1 HM1
  go_upto_region 4 with fail
  go_loopg [5, 7] fl (fun gk ov iv wx => ∃ (k : Nat) (Wx : World), Wx = wx ∧ ov = .string (mkS (outTo (rtN nl) m k)) ∧ iv = .int .i64 (k : Int) ∧ k + gk = fl ∧ W2 = wx)
  case atStart => exact ⟨0, _, rfl, rfl, rfl, by omega, rfl⟩
  case round =>
    obtain ⟨k, Wx, rfl, rfl, rfl, hk, rfl⟩ := hrel
    rcases gk with _ | nk
    · obtain rfl : k = fl := by omega
      have hkn : ¬ (k : Int) < (s.size : Int) := by omega
      have hz := HOl.out k
      have hz1 : (mkS (outTo (rtN nl) m k)).size ≤ 400 := by rw [mkS_size]; omega
      have q1 : ¬ (mkS (outTo (rtN nl) m k)).size + 1 > 9223372036854775807 := by omega
      have e1 : mkS (outTo (rtN nl) m k) ++ ({ data := #[10] } : ByteArray) = mkS (lineL (rtN nl) m) := by rw [← HEnd.out]; exact mkS_append _ [10]
      clear hz hz1
      go_wp2_with fail
      go_ret
      exact ⟨rfl, HB2.out⟩
    · have hks : k < s.size := by omega
      have hkn : (k : Int) < (s.size : Int) := by omega
      have hk0 : (0 : Int) ≤ (k : Int) := Int.natCast_nonneg k
      obtain ⟨c, hc⟩ : ∃ c, (ordL m.op)[k]? = some c := ⟨(ordL m.op)[k]'(by rw [Hfl.out]; omega), List.getElem?_eq_getElem _⟩
      have hsk : s[k] = c := by
        have h1 : s.data.toList[k]? = some c := by rw [← Hs.out, mkS_list]; exact hc
        rw [Array.getElem?_toList, Array.getElem?_eq_getElem hks] at h1
        exact Option.some.inj h1
      have hcl := HLet.out c (List.mem_of_getElem? hc)
      have HOs : Hid (outTo (rtN nl) m (k + 1) = outTo (rtN nl) m k ++ sepL k ++ partL m (rtN nl) c) := Lib.hid (by rw [outTo_succ, List.getD_eq_getElem?_getD, hc]; rfl)
      have hz := HOl.out k
      have hz2 := HOl.out (k + 1)
      obtain ⟨O0, hO0⟩ : ∃ O0, outTo (rtN nl) m k = O0 := ⟨_, rfl⟩
      obtain ⟨O2, hO2⟩ : ∃ O2, outTo (rtN nl) m (k + 1) = O2 := ⟨_, rfl⟩
      have HO2 := Lib.hid hO2
      rw [hO0] at hz ⊢
      rw [hO2] at hz2
      rw [hO0, hO2] at HOs
      obtain ⟨O1, hO1⟩ : ∃ O1, O0 ++ sepL k = O1 := ⟨_, rfl⟩
      rw [hO1] at HOs
      have HO1 := Lib.hid hO1
      have hO1l : O1.length ≤ 400 := by
        have := congrArg List.length HOs.out
        rw [List.length_append] at this
        omega
      have hO0l : (mkS O0).size ≤ 400 := by rw [mkS_size]; omega
      have hO1z : (mkS O1).size ≤ 400 := by rw [mkS_size]; exact hO1l
      clear hc hO0 hO2 hO1 hz hz2
      go_upto_if 22 with fail
      go_cut [5] (fun sv wx => sv = .string (mkS O1) ∧ W2 = wx)
      case first =>
        rcases Nat.eq_zero_or_pos k with h0 | h0
        · subst h0
          have q1 : ¬ (mkS O0).size + 1 > 9223372036854775807 := by omega
          have e1 : mkS O0 ++ ({ data := #[32] } : ByteArray) = mkS O1 := by rw [← HO1.out]; exact mkS_append _ [32]
          go_wp2_with fail
          go_meet
          exact ⟨rfl, rfl⟩
        · have q1 : ¬ (mkS O0).size + 2 > 9223372036854775807 := by omega
          have hkz : ((k : Int) == 0) = false := beq_eq_false_iff_ne.2 (by omega)
          have e1 : mkS O0 ++ ({ data := #[44, 32] } : ByteArray) = mkS O1 := by
            rw [← HO1.out]
            unfold sepL
            rw [if_neg (by omega)]
            exact mkS_append _ [44, 32]
          clear h0
          go_wp2_with fail
          go_meet
          exact ⟨rfl, rfl⟩
      case rest =>
        obtain ⟨rfl, rfl⟩ := hcut
        rcases hcl with rfl | rfl | rfl | rfl | ⟨rfl, hk4⟩ | rfl | rfl
        · have m1 := HM2.out.cell 1
          have HD := Lib.hid (Digits_any m.dst hm.dst W2)
          have hil := itoa_len hm.dst
          have hz1 : (mkS (Lib.itoa m.dst)).size ≤ 20 := by rw [mkS_size]; exact hil
          have HP : Hid (partL m (rtN nl) 100 = (114 :: Lib.itoa m.dst)) := Lib.hid (by rfl)
          have hz3 : (mkS (114 :: Lib.itoa m.dst)).size ≤ 21 := by rw [mkS_size, List.length_cons]; omega
          have q1 : ¬ 1 + (mkS (Lib.itoa m.dst)).size > 9223372036854775807 := by omega
          have e1 : ({ data := #[114] } : ByteArray) ++ mkS (Lib.itoa m.dst) = mkS (114 :: Lib.itoa m.dst) := mkS_append [114] _
          have q2 : ¬ (mkS O1).size + (mkS (114 :: Lib.itoa m.dst)).size > 9223372036854775807 := by omega
          have e2 : mkS O1 ++ mkS (114 :: Lib.itoa m.dst) = mkS O2 := by rw [HOs.out, HP.out]; exact mkS_append _ _
          clear hil hz1 hz3
          go_wp2_with fail
          refine HD.out.mono ?_
          rintro e w' ⟨rfl, rfl⟩
          go_wp2_with fail
          go_roundg nk
          case measure => omega
          case rel => exact ⟨k + 1, _, rfl, by rw [HO2.out], by go_num, by omega, rfl⟩
        · have m2 := HM2.out.cell 2
          have HD := Lib.hid (Digits_any m.a hm.a W2)
          have hil := itoa_len hm.a
          have hz1 : (mkS (Lib.itoa m.a)).size ≤ 20 := by rw [mkS_size]; exact hil
          have HP : Hid (partL m (rtN nl) 97 = (114 :: Lib.itoa m.a)) := Lib.hid (by rfl)
          have hz3 : (mkS (114 :: Lib.itoa m.a)).size ≤ 21 := by rw [mkS_size, List.length_cons]; omega
          have q1 : ¬ 1 + (mkS (Lib.itoa m.a)).size > 9223372036854775807 := by omega
          have e1 : ({ data := #[114] } : ByteArray) ++ mkS (Lib.itoa m.a) = mkS (114 :: Lib.itoa m.a) := mkS_append [114] _
          have q2 : ¬ (mkS O1).size + (mkS (114 :: Lib.itoa m.a)).size > 9223372036854775807 := by omega
          have e2 : mkS O1 ++ mkS (114 :: Lib.itoa m.a) = mkS O2 := by rw [HOs.out, HP.out]; exact mkS_append _ _
          clear hil hz1 hz3
          go_wp2_with fail
          refine HD.out.mono ?_
          rintro e w' ⟨rfl, rfl⟩
          go_wp2_with fail
          go_roundg nk
          case measure => omega
          case rel => exact ⟨k + 1, _, rfl, by rw [HO2.out], by go_num, by omega, rfl⟩
        · have m3 := HM2.out.cell 3
          have HD := Lib.hid (Digits_any m.b hm.b W2)
          have hil := itoa_len hm.b
          have hz1 : (mkS (Lib.itoa m.b)).size ≤ 20 := by rw [mkS_size]; exact hil
          have HP : Hid (partL m (rtN nl) 98 = (114 :: Lib.itoa m.b)) := Lib.hid (by rfl)
          have hz3 : (mkS (114 :: Lib.itoa m.b)).size ≤ 21 := by rw [mkS_size, List.length_cons]; omega
          have q1 : ¬ 1 + (mkS (Lib.itoa m.b)).size > 9223372036854775807 := by omega
          have e1 : ({ data := #[114] } : ByteArray) ++ mkS (Lib.itoa m.b) = mkS (114 :: Lib.itoa m.b) := mkS_append [114] _
          have q2 : ¬ (mkS O1).size + (mkS (114 :: Lib.itoa m.b)).size > 9223372036854775807 := by omega
          have e2 : mkS O1 ++ mkS (114 :: Lib.itoa m.b) = mkS O2 := by rw [HOs.out, HP.out]; exact mkS_append _ _
          clear hil hz1 hz3
          go_wp2_with fail
          refine HD.out.mono ?_
          rintro e w' ⟨rfl, rfl⟩
          go_wp2_with fail
          go_roundg nk
          case measure => omega
          case rel => exact ⟨k + 1, _, rfl, by rw [HO2.out], by go_num, by omega, rfl⟩
        · have m4 := HM2.out.cell 4
          have HD := Lib.hid (Digits_any m.n hm.n W2)
          have hil := itoa_len hm.n
          have hz1 : (mkS (Lib.itoa m.n)).size ≤ 20 := by rw [mkS_size]; exact hil
          have HP : Hid (partL m (rtN nl) 116 = (76 :: Lib.itoa m.n)) := Lib.hid (by rfl)
          have hz3 : (mkS (76 :: Lib.itoa m.n)).size ≤ 21 := by rw [mkS_size, List.length_cons]; omega
          have q1 : ¬ 1 + (mkS (Lib.itoa m.n)).size > 9223372036854775807 := by omega
          have e1 : ({ data := #[76] } : ByteArray) ++ mkS (Lib.itoa m.n) = mkS (76 :: Lib.itoa m.n) := mkS_append [76] _
          have q2 : ¬ (mkS O1).size + (mkS (76 :: Lib.itoa m.n)).size > 9223372036854775807 := by omega
          have e2 : mkS O1 ++ mkS (76 :: Lib.itoa m.n) = mkS O2 := by rw [HOs.out, HP.out]; exact mkS_append _ _
          clear hil hz1 hz3
          go_wp2_with fail
          refine HD.out.mono ?_
          rintro e w' ⟨rfl, rfl⟩
          go_wp2_with fail
          go_roundg nk
          case measure => omega
          case rel => exact ⟨k + 1, _, rfl, by rw [HO2.out], by go_num, by omega, rfl⟩
        · rcases Nat.eq_zero_or_pos nn with h0 | h0
          · subst h0
            have m4 := HM2.out.cell 4
            have HD := Lib.hid (Digits_any m.n hm.n W2)
            have hil := itoa_len hm.n
            have hz1 : (mkS (Lib.itoa m.n)).size ≤ 20 := by rw [mkS_size]; exact hil
            have HP : Hid (partL m (rtN nl) 114 = (Lib.itoa m.n)) := Lib.hid (by unfold partL; simp only [show ¬ ((114 : UInt8) = 100) by decide, show ¬ ((114 : UInt8) = 97) by decide, show ¬ ((114 : UInt8) = 98) by decide, show ¬ ((114 : UInt8) = 116) by decide, if_false, if_true]; unfold rtN; rw [if_pos (by rw [Hnn.out])])
            have q2 : ¬ (mkS O1).size + (mkS (Lib.itoa m.n)).size > 9223372036854775807 := by omega
            have e2 : mkS O1 ++ mkS (Lib.itoa m.n) = mkS O2 := by rw [HOs.out, HP.out]; exact mkS_append _ _
            clear hil hz1
            go_wp2_with fail
            refine HD.out.mono ?_
            rintro e w' ⟨rfl, rfl⟩
            go_wp2_with fail
            go_roundg nk
            case measure => omega
            case rel => exact ⟨k + 1, _, rfl, by rw [HO2.out], by go_num, by omega, rfl⟩
          · have hnp : (nn : Int) > 0 := by omega
            obtain ⟨t0, t1⟩ := Hnr.out (by rw [Hnn.out]; exact h0) hk4
            obtain ⟨t, ht⟩ : ∃ t : Nat, m.n = (t : Int) := ⟨m.n.toNat, by omega⟩
            have m4 := HM2.out.cell 4
            rw [Hnn.out] at t1
            have htn : t < nn := by omega
            obtain ⟨x, hx⟩ : ∃ x, nl[t]? = some x := ⟨nl[t]'(by rw [Hnn.out]; exact htn), List.getElem?_eq_getElem _⟩
            obtain ⟨nb, noff, rfl, hnb, hnc⟩ := HNc.out (by rw [Hnn.out]; exact h0)
            have kx := (bcell HB2.out hnb).trans (hnc t x hx)
            have HP : Hid (partL m (rtN nl) 114 = x) := Lib.hid (by
              unfold partL
              simp only [show ¬ ((114 : UInt8) = 100) by decide, show ¬ ((114 : UInt8) = 97) by decide, show ¬ ((114 : UInt8) = 98) by decide, show ¬ ((114 : UInt8) = 116) by decide, if_false, if_true]
              unfold rtN
              rw [if_neg (by rw [Hnn.out]; omega), ht, Int.toNat_natCast, List.getD_eq_getElem?_getD, hx]
              rfl)
            have hxl : x.length ≤ 1000 := by
              have h := congrArg List.length HOs.out
              rw [List.length_append, HP.out] at h
              have h2 := HOl.out (k + 1)
              rw [HO2.out] at h2
              omega
            have hz1 : (mkS x).size ≤ 1000 := by rw [mkS_size]; exact hxl
            have q2 : ¬ (mkS O1).size + (mkS x).size > 9223372036854775807 := by omega
            have e2 : mkS O1 ++ mkS x = mkS O2 := by rw [HOs.out, HP.out]; exact mkS_append _ _
            rw [ht] at t0 t1 m4
            clear hxl hz1 hx hnc
            go_wp2_with fail
            go_roundg nk
            case measure => omega
            case rel => exact ⟨k + 1, _, rfl, by rw [HO2.out], by go_num, by omega, rfl⟩
        · have m4 := HM2.out.cell 4
          have HD := Lib.hid (Digits_any m.n hm.n W2)
          have hil := itoa_len hm.n
          have hz1 : (mkS (Lib.itoa m.n)).size ≤ 20 := by rw [mkS_size]; exact hil
          have HP : Hid (partL m (rtN nl) 110 = (Lib.itoa m.n)) := Lib.hid (by rfl)
          have q2 : ¬ (mkS O1).size + (mkS (Lib.itoa m.n)).size > 9223372036854775807 := by omega
          have e2 : mkS O1 ++ mkS (Lib.itoa m.n) = mkS O2 := by rw [HOs.out, HP.out]; exact mkS_append _ _
          clear hil hz1
          go_wp2_with fail
          refine HD.out.mono ?_
          rintro e w' ⟨rfl, rfl⟩
          go_wp2_with fail
          go_roundg nk
          case measure => omega
          case rel => exact ⟨k + 1, _, rfl, by rw [HO2.out], by go_num, by omega, rfl⟩
        · have m4 := HM2.out.cell 4
          have HD := Lib.hid (Digits_any m.n hm.n W2)
          have hil := itoa_len hm.n
          have hz1 : (mkS (Lib.itoa m.n)).size ≤ 20 := by rw [mkS_size]; exact hil
          have HP : Hid (partL m (rtN nl) 119 = (Lib.itoa m.n)) := Lib.hid (by rfl)
          have q2 : ¬ (mkS O1).size + (mkS (Lib.itoa m.n)).size > 9223372036854775807 := by omega
          have e2 : mkS O1 ++ mkS (Lib.itoa m.n) = mkS O2 := by rw [HOs.out, HP.out]; exact mkS_append _ _
          clear hil hz1
          go_wp2_with fail
          refine HD.out.mono ?_
          rintro e w' ⟨rfl, rfl⟩
          go_wp2_with fail
          go_roundg nk
          case measure => omega
          case rel => exact ⟨k + 1, _, rfl, by rw [HO2.out], by go_num, by omega, rfl⟩
end Go.Proofs.YtdldochhondifaaDoor
