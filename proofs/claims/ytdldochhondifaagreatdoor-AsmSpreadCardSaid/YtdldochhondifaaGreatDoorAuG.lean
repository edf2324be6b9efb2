/-
  The statement AsmSpread, walked.
  Conditions: the laid start (Std).
-/
import Derived.Test.YtdldochhondifaaGreatDoorAuD
namespace Go.Proofs.YtdldochhondifaaGreatDoor
open Go.RowKit
attribute [local go_sem] Oper.semAt_some

theorem at_quiet (v : Value) (xs : List Int) (k : Nat) (w : World) (hv : IntsAt w w.heap.size v xs) (hk : k ≤ 1000) :
    Calls Tryz.prog 35 #[v, .int .i64 (k : Int)] w fun e w' => e = .returned (.int .i64 (xs.getD k 0)) ∧ w = w' := by
  obtain ⟨A, c, rfl, hc, hc63, hcell⟩ := hv
  obtain ⟨n, hn⟩ : ∃ n, xs.length = n := ⟨_, rfl⟩
  have k0 : (0 : Int) ≤ (k : Int) := Int.natCast_nonneg k
  by_cases hlt : k < n
  · have hlt' : (k : Int) < (n : Int) := by omega
    obtain ⟨b, off, rfl, hb, hx⟩ := hcell (by omega)
    have hx1 := hx k (xs.getD k 0) (by rw [List.getD_eq_getElem?_getD, List.getElem?_eq_getElem (by omega)]; rfl)
    rw [hn] at hc ⊢
    generalize xs.getD k 0 = x at *
    clear hx hcell
    go_enter Tryz.func35, Tryz.ntmps35
    go_wp2_with fail
    go_ret
    exact ⟨rfl, rfl⟩
  · have hlt' : ¬ (k : Int) < (n : Int) := by omega
    have hx1 : xs.getD k 0 = 0 := by rw [List.getD_eq_getElem?_getD, List.getElem?_eq_none (by omega)]; rfl
    rw [hx1]
    rw [hn] at hc ⊢
    clear hx1 hcell
    go_enter Tryz.func35, Tryz.ntmps35
    go_wp2_with fail
    go_ret
    exact ⟨rfl, rfl⟩
theorem At_quiet (v : Value) (xs : List Int) (k : Nat) (w : World) (hv : IntsAt w w.heap.size v xs) (hk : k ≤ 1000) :
    Calls Tryz.prog 16 #[v, .int .i64 (k : Int)] w fun e w' => e = .returned (.int .i64 (xs.getD k 0)) ∧ w = w' := by
  have HA := Lib.hid (at_quiet v xs k w hv hk)
  obtain ⟨A, c, rfl, hc, hc63, hcell⟩ := hv
  clear hcell
  go_enter Tryz.func16, Tryz.ntmps16
  go_wp2_with fail
  refine HA.out.mono ?_
  rintro e w2 ⟨rfl, rfl⟩
  go_wp2_with fail
  go_ret
  exact ⟨rfl, rfl⟩
/-- How the law spreads a byte. -/
def gapB (c : UInt8) (k : Nat) : List UInt8 :=
  if c = 32 then [[32], [32, 32], [9], [32, 9]].getD k []
  else if c = 44 then [[44], [32, 44], [44, 9], [9, 32, 44]].getD k []
  else if c = 10 then [[10], [32, 59, 32, 120, 44, 32, 121, 58, 10], [10, 10], [9, 10, 59, 10]].getD k []
  else [c]
theorem gapB_ok (c : UInt8) {k : Nat} (hk : k < 4) : SpreadB c (gapB c k) ∧ (gapB c k).length ≤ 9 := by
  have hk' : k = 0 ∨ k = 1 ∨ k = 2 ∨ k = 3 := by omega
  unfold SpreadB gapB
  by_cases h1 : c = 32
  · rw [if_pos h1, if_pos h1]
    rcases hk' with rfl | rfl | rfl | rfl
    · exact ⟨⟨by decide, by unfold Bls; decide⟩, by decide⟩
    · exact ⟨⟨by decide, by unfold Bls; decide⟩, by decide⟩
    · exact ⟨⟨by decide, by unfold Bls; decide⟩, by decide⟩
    · exact ⟨⟨by decide, by unfold Bls; decide⟩, by decide⟩
  rw [if_neg h1, if_neg h1]
  by_cases h2 : c = 44
  · rw [if_pos h2, if_pos h2]
    rcases hk' with rfl | rfl | rfl | rfl
    · exact ⟨⟨[], [], rfl, by unfold Bls; decide, by unfold Bls; decide⟩, by decide⟩
    · exact ⟨⟨[32], [], rfl, by unfold Bls; decide, by unfold Bls; decide⟩, by decide⟩
    · exact ⟨⟨[], [9], rfl, by unfold Bls; decide, by unfold Bls; decide⟩, by decide⟩
    · exact ⟨⟨[9, 32], [], rfl, by unfold Bls; decide, by unfold Bls; decide⟩, by decide⟩
  rw [if_neg h2, if_neg h2]
  by_cases h3 : c = 10
  · rw [if_pos h3, if_pos h3]
    rcases hk' with rfl | rfl | rfl | rfl
    · exact ⟨.inl rfl, by decide⟩
    · exact ⟨.inr (.inl rfl), by decide⟩
    · exact ⟨.inr (.inr (.inl rfl)), by decide⟩
    · exact ⟨.inr (.inr (.inr rfl)), by decide⟩
  rw [if_neg h3, if_neg h3]
  exact ⟨rfl, by simp⟩
theorem Spread.snoc {a w u : List UInt8} {c : UInt8} (h : Spread a w) (hu : SpreadB c u) : Spread (a ++ [c]) (w ++ u) :=
  h.join ⟨u, [], by simp, hu, rfl⟩
theorem mod7 (i : Nat) : wrap64 ((i : Int).tmod 7) = ((i % 7 : Nat) : Int) := by
  rw [Int.tmod_eq_emod_of_nonneg (by omega), IntWalk.wrap64_in _ (by omega)]
  omega
theorem byte_ne' {c k : UInt8} {n : Int} (hk : (k.toNat : Int) = n) (h : c ≠ k) : ((c.toNat : Int) == n) = false := by
  rw [beq_eq_false_iff_ne]
  intro e
  exact h (UInt8.toNat_inj.1 (by omega))
set_option maxRecDepth 100000 in
set_option maxHeartbeats 8000000 in
theorem AsmSpread_any (v u : Value) (xs ys : List Int) (w : World) (hv : IntsAt w w.heap.size v xs) (hu : IntsAt w w.heap.size u ys) (hx : ∀ x ∈ xs, I64 x) (hy : ∀ x ∈ ys, I64 x) (hS : Std w) :
    Calls Tryz.prog 5 #[v, u] w fun e w' => e = .returned (.bool true) ∧ Below w.heap.size w w' := by
  have HC := Lib.hid (CodeOf_any v xs 20 20 40 w rfl hv hx (by decide) (by decide) (by decide))
  obtain ⟨ms, hms⟩ : ∃ ms, codeOf xs 20 40 = ms := ⟨_, rfl⟩
  have hck : checkS ms = (0, 0) := by rw [← hms]; exact codeOf_ok xs 20 40 (by decide) (by decide)
  have hok : ∀ m ∈ ms, m.ok := by rw [← hms]; exact codeOf_i64 xs 20 40 (by decide) ⟨by decide, by decide⟩ hx (by decide)
  have hlen : ms.length ≤ 21 ∧ 0 < ms.length := by rw [← hms, codeOf_len]; omega
  rw [hms] at HC
  have htl := text_len20 hok (by omega) (Nat.le_refl ms.length)
  have htx : txtF ms = textL Lib.itoa ms := by unfold txtF; rw [hck, if_pos rfl]
  have hne := text_ne (rt := Lib.itoa) hlen.2
  obtain ⟨t, ht⟩ : ∃ t, textL Lib.itoa ms = t := ⟨_, rfl⟩
  obtain ⟨n, hn⟩ : ∃ n, t.length = n := ⟨_, rfl⟩
  have hl2 : n ≤ 2100 := by rw [← hn, ← ht]; unfold textL; omega
  have HRd : Hid (∀ wd, Spread t wd → wd.length ≤ 80000 → readP wd = (ms, (0, 0))) := Lib.hid fun wd h1 h2 => read_text (by rw [hck]) hok (by rw [ht]; exact h1) h2
  rw [ht] at hne htx
  have HS := Lib.hid hS
  have Hck := Lib.hid hck
  have Hok := Lib.hid hok
  have Htx := Lib.hid htx
  have Hn := Lib.hid hn
  have HU := Lib.hid hu
  have Hy := Lib.hid hy
  have hz : (mkS t).size = n := by rw [mkS_size, hn]
  have q1 : ¬ (mkS t).toList = [] := by rw [mkS_toList]; exact hne
  have q2 : ((mkS t).toList == []) = false := beq_false_of_ne q1
  have q3 : (mkS t).toList.isEmpty = false := by rw [mkS_toList]; cases t with | nil => exact absurd rfl hne | cons a l => rfl
  clear hv hu hx hy hS hms hck hok hlen htl htx hne ht hn
  go_enter Tryz.func5, Tryz.ntmps5
  go_wp2_with fail
  refine HC.out.mono ?_
  rintro e W1 ⟨v1, rfl, ho1, hb1⟩
  have HB1 := Lib.hid hb1
  have HO1 := Lib.hid ho1
  have HT := Lib.hid (Text_any v1 ms W1 ho1.macs Hok.out (HS.out.own hb1).tab (HS.out.own hb1).pow (HS.out.own hb1).wrd)
  rw [Hck.out, Htx.out] at HT
  clear hb1 ho1 HC
  go_wp2_with fail
  refine HT.out.mono ?_
  rintro e W2 ⟨rfl, hb2⟩
  have HB3 : Hid (Below w.heap.size w (W2.alloc (.cells #[.int .i64 0, .int .i64 0] 24))) := Lib.hid ((HB1.out.trans (hb2.mono HB1.out.size)).alloc (Nat.le_trans HB1.out.size hb2.size) _)
  have HF3 : Hid (Blk (W2.alloc (.cells #[.int .i64 0, .int .i64 0] 24)) W2.heap.size 24 #[.int .i64 0, .int .i64 0]) := Lib.hid (Blk.new _ _ _)
  have HO3 : Hid (OwnMacs (W2.alloc (.cells #[.int .i64 0, .int .i64 0] 24)) w.heap.size v1 ms) := Lib.hid (World.ownsRow.alloc (HO1.out.below hb2 rfl) _)
  clear hb2 HT HO1 HB1
  go_upto_region 3 with fail
  generalize W2.alloc (.cells #[.int .i64 0, .int .i64 0] 24) = W3 at *
  generalize W2.heap.size = g3 at *
  have x0 := HF3.out.cell 0
  go_upto_region 7 with fail
  clear q1 q2 q3 x0
  go_loopg [8, 9] n (fun gk wv iv wx => ∃ (i : Nat) (wd : List UInt8), iv = .int .i64 (i : Int) ∧ wv = .string (mkS wd) ∧ i + gk = n ∧ Hid (Spread (t.take i) wd ∧ wd.length ≤ 9 * i) ∧ Hid (Below W3.heap.size W3 wx))
  case atStart => exact ⟨0, [], rfl, rfl, by omega, Lib.hid ⟨rfl, by simp⟩, Lib.hid (Below.refl _ _)⟩
  case round =>
    obtain ⟨i, wd, rfl, rfl, hi, HW, HBx⟩ := hrel
    have HSx : Hid (Std wr) := Lib.hid (HS.out.own (HB3.out.trans (HBx.out.mono HB3.out.size)))
    rcases gk with _ | gk
    · obtain rfl : i = n := by omega
      have hsp := HW.out.1
      rw [List.take_of_length_le (by rw [Hn.out]; exact Nat.le_refl _)] at hsp
      have hrd := HRd.out wd hsp (by have := HW.out.2; omega)
      have HR := Lib.hid (AsmRead_any wd (by have := HW.out.2; omega) wr HSx.out)
      rw [hrd] at HR
      clear hsp hrd
      go_wp2_with fail
      refine HR.out.mono ?_
      rintro e W4 ⟨⟨v2, rfl, ho2⟩, hb4⟩
      have hB4 := HBx.out.trans (hb4.mono HBx.out.size)
      have HB5 : Hid (Below w.heap.size w (W4.alloc (.cells #[.int .i64 0, .int .i64 0] 24))) := Lib.hid ((HB3.out.trans (hB4.mono HB3.out.size)).alloc (Nat.le_trans HB3.out.size hB4.size) _)
      have HG5 : Hid (Blk (W4.alloc (.cells #[.int .i64 0, .int .i64 0] 24)) W4.heap.size 24 #[.int .i64 0, .int .i64 0]) := Lib.hid (Blk.new _ _ _)
      have HV5 : Hid (OwnMacs (W4.alloc (.cells #[.int .i64 0, .int .i64 0] 24)) w.heap.size v1 ms) := Lib.hid (World.ownsRow.alloc (HO3.out.below hB4 rfl) _)
      have HU5 : Hid (OwnMacs (W4.alloc (.cells #[.int .i64 0, .int .i64 0] 24)) wr.heap.size v2 ms) := Lib.hid (World.ownsRow.alloc ho2 _)
      clear hb4 hB4 ho2 HR HF3 HO3
      go_upto_region 19 with fail
      generalize W4.alloc (.cells #[.int .i64 0, .int .i64 0] 24) = W5 at *
      generalize W4.heap.size = g5 at *
      have HSm := Lib.hid (SameMacs_any v2 v1 ms ms W5 HU5.out.macs HV5.out.macs)
      have y0 := HG5.out.cell 0
      go_wp2_with fail
      refine HSm.out.mono ?_
      rintro e W6 ⟨rfl, hb6⟩
      have HB6 := Lib.hid (HB5.out.trans (hb6.mono HB5.out.size))
      rw [show (decide True : Bool) = true from rfl]
      clear hb6 HSm
      go_wp2_with fail
      go_ret
      exact ⟨rfl, HB6.out⟩
    · have hilt : i < n := by omega
      have k0 : (0 : Int) ≤ (i : Int) := Int.natCast_nonneg i
      have k1 : (i : Int) < (n : Int) := by omega
      have hlt : i < (mkS t).size := by omega
      have hm7 := mod7 i
      have HAt := Lib.hid (At_quiet u ys (i % 7) wr ((HU.out.below (HB3.out.trans (HBx.out.mono HB3.out.size)) (Nat.le_refl _)).more (HB3.out.trans (HBx.out.mono HB3.out.size)).size) (by omega))
      obtain ⟨y, hy⟩ : ∃ y, ys.getD (i % 7) 0 = y := ⟨_, rfl⟩
      have hyI : I64 y := by
        rw [← hy, List.getD_eq_getElem?_getD]
        cases h : ys[i % 7]? with
        | none => exact ⟨by decide, by decide⟩
        | some z => exact Hy.out z (List.mem_of_getElem? h)
      rw [hy] at HAt
      have HPk := Lib.hid (Picked_any y 4 wr (by decide) (by decide) hyI)
      obtain ⟨k, hk, hk4⟩ : ∃ k : Nat, y % 4 = (k : Int) ∧ k < 4 := ⟨(y % 4).toNat, by omega, by omega⟩
      rw [hk] at HPk
      obtain ⟨c, hc⟩ : ∃ c, t.getD i 0 = c := ⟨_, rfl⟩
      have hq : (mkS t)[i] = c := by rw [at_mk, hc]
      have hci : t[i]? = some c := by rw [← hc, List.getD_eq_getElem?_getD, List.getElem?_eq_getElem (by rw [Hn.out]; exact hilt)]; rfl
      obtain ⟨s1, s2⟩ := gapB_ok c hk4
      have HW2 : Hid (Spread (t.take (i + 1)) (wd ++ gapB c k) ∧ (wd ++ gapB c k).length ≤ 9 * (i + 1)) := Lib.hid ⟨by rw [List.take_add_one, hci]; exact HW.out.1.snoc s1, by rw [List.length_append]; have := HW.out.2; omega⟩
      have HWl := Lib.hid (show wd.length ≤ 9 * i from HW.out.2)
      clear hyI hk hy hc hci s1 s2 HW
      go_wp2_with fail
      refine HAt.out.mono ?_
      rintro e w2 ⟨rfl, rfl⟩
      go_wp2_with fail
      refine HPk.out.mono ?_
      rintro e w2 ⟨rfl, rfl⟩
      clear HAt HPk
      go_upto_region 10 with fail
      have hk' : k = 0 ∨ k = 1 ∨ k = 2 ∨ k = 3 := by omega
      by_cases h32 : c = 32
      · subst h32
        have hb : ((mkS t)[i].toNat : Int) = 32 := by rw [hq]; rfl
        rcases hk' with rfl | rfl | rfl | rfl
        · have e1 : mkS wd ++ ⟨#[32]⟩ = mkS (wd ++ gapB 32 0) := mkS_append wd [32]
          have q0 : ¬ (mkS wd).size + 1 > 9223372036854775807 := by rw [mkS_size]; have := HWl.out; omega
          clear HWl
          go_wp2_with fail
          go_roundg gk
          case measure => omega
          case rel => exact ⟨i + 1, _, by go_num, rfl, by omega, HW2, Lib.hid (HBx.out.alloc HBx.out.size _)⟩
        · have e1 : mkS wd ++ ⟨#[32, 32]⟩ = mkS (wd ++ gapB 32 1) := mkS_append wd [32, 32]
          have q0 : ¬ (mkS wd).size + 2 > 9223372036854775807 := by rw [mkS_size]; have := HWl.out; omega
          clear HWl
          go_wp2_with fail
          go_roundg gk
          case measure => omega
          case rel => exact ⟨i + 1, _, by go_num, rfl, by omega, HW2, Lib.hid (HBx.out.alloc HBx.out.size _)⟩
        · have e1 : mkS wd ++ ⟨#[9]⟩ = mkS (wd ++ gapB 32 2) := mkS_append wd [9]
          have q0 : ¬ (mkS wd).size + 1 > 9223372036854775807 := by rw [mkS_size]; have := HWl.out; omega
          clear HWl
          go_wp2_with fail
          go_roundg gk
          case measure => omega
          case rel => exact ⟨i + 1, _, by go_num, rfl, by omega, HW2, Lib.hid (HBx.out.alloc HBx.out.size _)⟩
        · have e1 : mkS wd ++ ⟨#[32, 9]⟩ = mkS (wd ++ gapB 32 3) := mkS_append wd [32, 9]
          have q0 : ¬ (mkS wd).size + 2 > 9223372036854775807 := by rw [mkS_size]; have := HWl.out; omega
          clear HWl
          go_wp2_with fail
          go_roundg gk
          case measure => omega
          case rel => exact ⟨i + 1, _, by go_num, rfl, by omega, HW2, Lib.hid (HBx.out.alloc HBx.out.size _)⟩
      by_cases h44 : c = 44
      · subst h44
        have hb : ((mkS t)[i].toNat : Int) = 44 := by rw [hq]; rfl
        have hn32 : (((mkS t)[i].toNat : Int) == 32) = false := by rw [hb]; rfl
        rcases hk' with rfl | rfl | rfl | rfl
        · have e1 : mkS wd ++ ⟨#[44]⟩ = mkS (wd ++ gapB 44 0) := mkS_append wd [44]
          have q0 : ¬ (mkS wd).size + 1 > 9223372036854775807 := by rw [mkS_size]; have := HWl.out; omega
          clear HWl
          go_wp2_with fail
          go_roundg gk
          case measure => omega
          case rel => exact ⟨i + 1, _, by go_num, rfl, by omega, HW2, Lib.hid (HBx.out.alloc HBx.out.size _)⟩
        · have e1 : mkS wd ++ ⟨#[32, 44]⟩ = mkS (wd ++ gapB 44 1) := mkS_append wd [32, 44]
          have q0 : ¬ (mkS wd).size + 2 > 9223372036854775807 := by rw [mkS_size]; have := HWl.out; omega
          clear HWl
          go_wp2_with fail
          go_roundg gk
          case measure => omega
          case rel => exact ⟨i + 1, _, by go_num, rfl, by omega, HW2, Lib.hid (HBx.out.alloc HBx.out.size _)⟩
        · have e1 : mkS wd ++ ⟨#[44, 9]⟩ = mkS (wd ++ gapB 44 2) := mkS_append wd [44, 9]
          have q0 : ¬ (mkS wd).size + 2 > 9223372036854775807 := by rw [mkS_size]; have := HWl.out; omega
          clear HWl
          go_wp2_with fail
          go_roundg gk
          case measure => omega
          case rel => exact ⟨i + 1, _, by go_num, rfl, by omega, HW2, Lib.hid (HBx.out.alloc HBx.out.size _)⟩
        · have e1 : mkS wd ++ ⟨#[9, 32, 44]⟩ = mkS (wd ++ gapB 44 3) := mkS_append wd [9, 32, 44]
          have q0 : ¬ (mkS wd).size + 3 > 9223372036854775807 := by rw [mkS_size]; have := HWl.out; omega
          clear HWl
          go_wp2_with fail
          go_roundg gk
          case measure => omega
          case rel => exact ⟨i + 1, _, by go_num, rfl, by omega, HW2, Lib.hid (HBx.out.alloc HBx.out.size _)⟩
      by_cases h10 : c = 10
      · subst h10
        have hb : ((mkS t)[i].toNat : Int) = 10 := by rw [hq]; rfl
        have hn32 : (((mkS t)[i].toNat : Int) == 32) = false := by rw [hb]; rfl
        have hn44 : (((mkS t)[i].toNat : Int) == 44) = false := by rw [hb]; rfl
        rcases hk' with rfl | rfl | rfl | rfl
        · have e1 : mkS wd ++ ⟨#[10]⟩ = mkS (wd ++ gapB 10 0) := mkS_append wd [10]
          have q0 : ¬ (mkS wd).size + 1 > 9223372036854775807 := by rw [mkS_size]; have := HWl.out; omega
          clear HWl
          go_wp2_with fail
          go_roundg gk
          case measure => omega
          case rel => exact ⟨i + 1, _, by go_num, rfl, by omega, HW2, Lib.hid (HBx.out.alloc HBx.out.size _)⟩
        · have e1 : mkS wd ++ ⟨#[32, 59, 32, 120, 44, 32, 121, 58, 10]⟩ = mkS (wd ++ gapB 10 1) := mkS_append wd [32, 59, 32, 120, 44, 32, 121, 58, 10]
          have q0 : ¬ (mkS wd).size + 9 > 9223372036854775807 := by rw [mkS_size]; have := HWl.out; omega
          clear HWl
          go_wp2_with fail
          go_roundg gk
          case measure => omega
          case rel => exact ⟨i + 1, _, by go_num, rfl, by omega, HW2, Lib.hid (HBx.out.alloc HBx.out.size _)⟩
        · have e1 : mkS wd ++ ⟨#[10, 10]⟩ = mkS (wd ++ gapB 10 2) := mkS_append wd [10, 10]
          have q0 : ¬ (mkS wd).size + 2 > 9223372036854775807 := by rw [mkS_size]; have := HWl.out; omega
          clear HWl
          go_wp2_with fail
          go_roundg gk
          case measure => omega
          case rel => exact ⟨i + 1, _, by go_num, rfl, by omega, HW2, Lib.hid (HBx.out.alloc HBx.out.size _)⟩
        · have e1 : mkS wd ++ ⟨#[9, 10, 59, 10]⟩ = mkS (wd ++ gapB 10 3) := mkS_append wd [9, 10, 59, 10]
          have q0 : ¬ (mkS wd).size + 4 > 9223372036854775807 := by rw [mkS_size]; have := HWl.out; omega
          clear HWl
          go_wp2_with fail
          go_roundg gk
          case measure => omega
          case rel => exact ⟨i + 1, _, by go_num, rfl, by omega, HW2, Lib.hid (HBx.out.alloc HBx.out.size _)⟩
      have hn32 : (((mkS t)[i].toNat : Int) == 32) = false := by rw [hq]; exact byte_ne' (k := 32) rfl h32
      have hn44 : (((mkS t)[i].toNat : Int) == 44) = false := by rw [hq]; exact byte_ne' (k := 44) rfl h44
      have hn10 : (((mkS t)[i].toNat : Int) == 10) = false := by rw [hq]; exact byte_ne' (k := 10) rfl h10
      have hg : gapB c k = [c] := by unfold gapB; rw [if_neg h32, if_neg h44, if_neg h10]
      rw [hg] at HW2
      have hex : (mkS t).extract i (i + 1) = mkS [c] := by
        rw [cut_mk, take_snoc (by rw [Hn.out]; exact hilt), List.drop_left' (by rw [List.length_take, Hn.out]; omega), ← hq, at_mk]
      have hD1 : (mkS [c]).size = 1 := by rw [mkS_size]; rfl
      have e1 := mkS_append wd [c]
      have q0 : ¬ (mkS wd).size + 1 > 9223372036854775807 := by rw [mkS_size]; have := HWl.out; omega
      have q1 : (i : Int) + 1 ≤ (n : Int) := by omega
      generalize mkS [c] = D at *
      clear HWl hg h32 h44 h10 hk' hq
      go_wp2_with fail
      go_roundg gk
      case measure => omega
      case rel => exact ⟨i + 1, _, by go_num, rfl, by omega, HW2, HBx⟩
end Go.Proofs.YtdldochhondifaaGreatDoor
