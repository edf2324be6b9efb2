/-
  code.checker: phi.
  Conditions: as the theorems say.
-/
import Derived.Test.YtiknhfbkphoceaaGreatDoorUnE
import Derived.Test.YtiknhfbkphoceaaGreatDoorUnQ
import Derived.Deep.DeepCutAuto
import Derived.Deep.RegionHeld3
namespace Go.Proofs.YtiknhfbkphoceaaGreatDoor
open Go.RowKit

section
variable {regs : Int} {rows : List (List Int)} {bk : Nat} {p : PhiU}
theorem phi_0 (h : bk = 0) : phiE regs rows bk p = 5 := by unfold phiE; rw [if_pos h]
theorem phi_d (h : bk ≠ 0) (h2 : dstE regs p.dst ≠ 0) : phiE regs rows bk p = dstE regs p.dst := by unfold phiE; rw [if_neg h, if_pos h2]
theorem phi_9 {xs : List Int} (h : bk ≠ 0) (h2 : dstE regs p.dst = 0) (hx : rows[bk]? = some xs) (h3 : p.from_.length ≠ xs.length) : phiE regs rows bk p = 9 := by
  unfold phiE; rw [if_neg h, if_neg (by simpa using h2), if_pos (by rw [List.getD_eq_getElem?_getD, hx]; exact h3)]
theorem phi_t {xs : List Int} (h : bk ≠ 0) (h2 : dstE regs p.dst = 0) (hx : rows[bk]? = some xs) (h3 : p.from_.length = xs.length) : phiE regs rows bk p = firstE (fun _ v => valE regs v) p.from_ := by
  unfold phiE; rw [if_neg h, if_neg (by simpa using h2), if_neg (by rw [List.getD_eq_getElem?_getD, hx]; simpa using h3)]
end
set_option maxRecDepth 100000 in
set_option maxHeartbeats 2000000 in
theorem phi_any (gA fA bA aA : Option Addr) (gl gc fl fc bl bc al ac : Nat) (nm : ByteArray) (ps regs : Int) (bk : Nat) (xA : Option Addr) (xl xc : Nat) (dst : Int) (args : List Opd) (rows : List (List Int)) (w : World) (hr : 0 ≤ regs ∧ regs ≤ 100) (hdst : I64 dst) (hrows : RowsAtU w w.heap.size (.slice aA al ac) rows) (hbk : bk < rows.length)
    (ha : OpdsAt w w.heap.size (.slice xA xl xc) args) :
    Calls Tryz.prog 86 #[.agg #[.slice gA gl gc, .slice fA fl fc, .string nm, .int .i64 ps, .int .i64 regs, .slice bA bl bc, .slice aA al ac], .int .i64 bk, .agg #[.int .i64 dst, .slice xA xl xc]] w fun e w' => e = .returned (.int .i64 (phiE regs rows bk ⟨dst, args⟩)) ∧ Below w.heap.size w w' := by
  have Hr := Lib.hid hr
  have HA := Lib.hid ha
  have HR := Lib.hid hrows
  have hxl : args.length = xl := SlAt.len ha
  have hx63 : xl ≤ 9223372036854775807 := by
    obtain ⟨A', c', e, h1, h2⟩ := SlAt.form ha
    omega
  have Hxl := Lib.hid hxl
  have hal : rows.length = al := SlAt.len hrows
  have ha63 : al ≤ 9223372036854775807 := by
    obtain ⟨A', c', e, h1, h2⟩ := SlAt.form hrows
    omega
  have hd0 : -9223372036854775808 ≤ dst := hdst.1
  have hd1 : dst ≤ 9223372036854775807 := hdst.2
  have hbl : bk < al := by omega
  obtain ⟨xs, hxs⟩ : ∃ xs, rows[bk]? = some xs := ⟨rows[bk], List.getElem?_eq_getElem _⟩
  have Hxs := Lib.hid hxs
  obtain ⟨rb, roff, rfl, hrb, us, ⟨rv, rfl, hrv⟩, hrc⟩ := SlAt.at hrows hxs
  have r0 := hrc 0 _ rfl
  simp only [Nat.mul_one, Nat.add_zero] at r0
  obtain ⟨rA, rcap, rfl, _, hr63, _⟩ := hrv
  obtain ⟨rl, hrl⟩ : ∃ rl, xs.length = rl := ⟨_, rfl⟩
  rw [hrl] at r0
  have Hrl := Lib.hid hrl
  have hb0 : (0 : Int) ≤ (bk : Int) := Int.natCast_nonneg bk
  have hb1 : (bk : Int) < (al : Int) := by omega
  have hrl63 : rl ≤ 9223372036854775807 := by omega
  clear hr ha hrows hdst hrc hxs hal hbk hrl
  by_cases h0 : bk = 0
  · have HE : Hid (phiE regs rows bk ⟨dst, args⟩ = 5) := Lib.hid (phi_0 h0)
    subst h0
    go_enter Tryz.func86, Tryz.ntmps86
    go_wp2_with fail
    go_ret
    exact ⟨ret_int HE.out.symm, ((Below.refl _ _).alloc (Nat.le_refl _) _).alloc (by simp) _⟩
  · have hbb : ((bk : Int) == 0) = false := by simp; omega
    have H0 := Lib.hid h0
    clear h0
    have HW0 : Hid (Below w.heap.size w ((w.alloc (.cells #[.slice gA gl gc, .slice fA fl fc, .string nm, .int .i64 ps, .int .i64 regs, .slice bA bl bc, .slice (some ⟨rb, roff, none⟩) al ac] 118)).alloc (.cells #[.int .i64 dst, .slice xA xl xc] 134))) := Lib.hid (((Below.refl _ _).alloc (Nat.le_refl _) _).alloc (by simp) _)
    have HC0 : Hid (Blk ((w.alloc (.cells #[.slice gA gl gc, .slice fA fl fc, .string nm, .int .i64 ps, .int .i64 regs, .slice bA bl bc, .slice (some ⟨rb, roff, none⟩) al ac] 118)).alloc (.cells #[.int .i64 dst, .slice xA xl xc] 134)) w.heap.size 118 #[.slice gA gl gc, .slice fA fl fc, .string nm, .int .i64 ps, .int .i64 regs, .slice bA bl bc, .slice (some ⟨rb, roff, none⟩) al ac]) := Lib.hid ((Blk.new w _ _).alloc _)
    have HX0 : Hid (Blk ((w.alloc (.cells #[.slice gA gl gc, .slice fA fl fc, .string nm, .int .i64 ps, .int .i64 regs, .slice bA bl bc, .slice (some ⟨rb, roff, none⟩) al ac] 118)).alloc (.cells #[.int .i64 dst, .slice xA xl xc] 134)) (w.heap.size + 1) 134 #[.int .i64 dst, .slice xA xl xc]) := Lib.hid (by simpa using Blk.new (w.alloc (.cells #[.slice gA gl gc, .slice fA fl fc, .string nm, .int .i64 ps, .int .i64 regs, .slice bA bl bc, .slice (some ⟨rb, roff, none⟩) al ac] 118)) 134 #[.int .i64 dst, .slice xA xl xc])
    go_enter Tryz.func86, Tryz.ntmps86
    go_upto_region 3 with fail
    generalize (w.alloc (.cells #[.slice gA gl gc, .slice fA fl fc, .string nm, .int .i64 ps, .int .i64 regs, .slice bA bl bc, .slice (some ⟨rb, roff, none⟩) al ac] 118)).alloc (.cells #[.int .i64 dst, .slice xA xl xc] 134) = W0 at *
    generalize hg2 : w.heap.size + 1 = g2 at *
    have c0 := HC0.out.cell 0
    have c1 := HC0.out.cell 1
    have c2 := HC0.out.cell 2
    have c3 := HC0.out.cell 3
    have c4 := HC0.out.cell 4
    have c5 := HC0.out.cell 5
    have c6 := HC0.out.cell 6
    have x0 := HX0.out.cell 0
    go_wp2_with fail
    refine (dst_any gA fA bA _ gl gc fl fc bl bc al ac nm ps regs dst _ Hr.out).mono ?_
    rintro e W1 ⟨rfl, hb1⟩
    clear c0 c1 c2 c3 c4 c5 c6 x0
    have HC1 := Lib.hid (HC0.out.below hb1 HC0.out.lt)
    have HX1 := Lib.hid (HX0.out.below hb1 HX0.out.lt)
    have HB1 : Hid (Below w.heap.size w W1) := Lib.hid (HW0.out.trans (hb1.mono HW0.out.size))
    clear hb1 HC0 HX0 HW0 hg2
    by_cases hd : dstE regs dst = 0
    · have Hd := Lib.hid hd
      rw [hd]
      clear hd
      have q6 := HC1.out.cell 6
      have x1 := HX1.out.cell 1
      have r0 := (bcell HB1.out hrb).trans r0
      by_cases hlen : (xl : Int) = (rl : Int)
      · have HT : Hid (phiE regs rows bk ⟨dst, args⟩ = firstE (fun _ v => valE regs v) args) := Lib.hid (phi_t H0.out Hd.out Hxs.out (by show args.length = xs.length; rw [Hxl.out, Hrl.out]; omega))
        have hlb : ((xl : Int) != (rl : Int)) = false := by simpa using hlen
        clear hlen
        go_wp2_with fail
        go_quiet (fail)
        have HB2 : Hid (Below w.heap.size w (W1.drewN nq)) := Lib.hid (below_drewN HB1.out _)
        have HC2 : Hid (Blk (W1.drewN nq) w.heap.size 118 #[.slice gA gl gc, .slice fA fl fc, .string nm, .int .i64 ps, .int .i64 regs, .slice bA bl bc, .slice (some ⟨rb, roff, none⟩) al ac]) := HC1
        have e6 : (W1.drewN nq).cell? ⟨g2, 1, none⟩ = some (.slice xA xl xc) := x1
        generalize W1.drewN nq = W2 at *
        go_wp2_with fail
        go_loopw [33] (fun i wr => ∃ k : Nat, k ≤ xl ∧ i = .int .i64 k ∧ Hid (∀ j, j < k → badOf (fun _ v => valE regs v) args j = 0) ∧ Hid (Below w.heap.size w wr) ∧ Hid (Blk wr w.heap.size 118 #[.slice gA gl gc, .slice fA fl fc, .string nm, .int .i64 ps, .int .i64 regs, .slice bA bl bc, .slice (some ⟨rb, roff, none⟩) al ac])) (fun i _ => xl - (intOf i).toNat)
        case atStart => exact ⟨0, Nat.zero_le _, rfl, Lib.hid (fun j h => absurd h (Nat.not_lt_zero j)), HB2, HC2⟩
        case round =>
          obtain ⟨k, hk, rfl, HN, HB, HCr⟩ := hrel
          clear HB2 HC2
          by_cases hlt : k < xl
          · obtain ⟨⟨vr, vn⟩, hv⟩ : ∃ v, args[k]? = some v := ⟨args[k]'(by rw [Hxl.out]; exact hlt), List.getElem?_eq_getElem _⟩
            obtain ⟨xb', xoff, hxA, hxb, us, hus, hcell⟩ := SlAt.at HA.out hv
            unfold OpdP at hus
            subst hus
            have v0 := (bcell HB.out hxb).trans (hcell 0 _ rfl)
            have v1 := (bcell HB.out hxb).trans (hcell 1 _ rfl)
            simp only [Nat.add_zero] at v0 v1
            subst hxA
            have hg1 := HCr.out.lt
            have q0 := HCr.out.cell 0
            have q1 := HCr.out.cell 1
            have q2 := HCr.out.cell 2
            have q3 := HCr.out.cell 3
            have q4 := HCr.out.cell 4
            have q5 := HCr.out.cell 5
            have q6 := HCr.out.cell 6
            have HB3 := Lib.hid (HB.out.alloc HB.out.size (.cells #[.bool vr, .int .i64 vn] 66))
            have HC3 := Lib.hid (HCr.out.alloc (.cells #[.bool vr, .int .i64 vn] 66))
            have Hv := Lib.hid hv
            have hk0 : (0 : Int) ≤ (k : Int) := Int.natCast_nonneg k
            have hk1 : (k : Int) < (xl : Int) := by omega
            clear hcell hv
            go_wp2_with fail
            refine (val_any _ _ _ _ _ _ _ _ _ _ _ _ _ ps regs ⟨vr, vn⟩ _ Hr.out).mono ?_
            rintro e w3 ⟨rfl, hb3⟩
            have HC4 := Lib.hid (HC3.out.below hb3 HC3.out.lt)
            have HB4 := Lib.hid (HB3.out.trans (hb3.mono HB3.out.size))
            clear hb3
            by_cases he : valE regs ⟨vr, vn⟩ = 0
            · have HN2 : Hid (∀ j, j < k + 1 → badOf (fun _ v => valE regs v) args j = 0) := Lib.hid (bad_step Hv.out he HN.out)
              rw [he]
              go_wp2_with fail
              go_roundw
              case rel => exact ⟨k + 1, by omega, by go_num, HN2, HB4, HC4⟩
              case measure => simp [intOf]; omega
            · have HE : Hid (phiE regs rows bk ⟨dst, args⟩ = valE regs ⟨vr, vn⟩) := Lib.hid (HT.out.trans (firstE_hit Hv.out he HN.out))
              have hne : (valE regs ⟨vr, vn⟩ != 0) = true := by simpa using he
              clear he
              generalize valE regs ⟨vr, vn⟩ = ev at *
              go_wp2_with fail
              go_ret
              exact ⟨ret_int HE.out.symm, HB4.out⟩
          · have HE : Hid (phiE regs rows bk ⟨dst, args⟩ = 0) := Lib.hid (HT.out.trans (firstE_ok (fun j hj => HN.out j (by rw [Hxl.out] at hj; omega))))
            go_wp2_with fail
            go_ret
            exact ⟨ret_int HE.out.symm, HB.out⟩
      · have HE : Hid (phiE regs rows bk ⟨dst, args⟩ = 9) := Lib.hid (phi_9 H0.out Hd.out Hxs.out (by show args.length ≠ xs.length; rw [Hxl.out, Hrl.out]; omega))
        have hlb : ((xl : Int) != (rl : Int)) = true := by simpa using hlen
        clear hlen
        go_wp2_with fail
        go_quiet (fail)
        go_wp2_with fail
        go_ret
        exact ⟨ret_int HE.out.symm, below_drewN HB1.out _⟩
    · have HE : Hid (phiE regs rows bk ⟨dst, args⟩ = dstE regs dst) := Lib.hid (phi_d H0.out hd)
      have hb : (dstE regs dst != 0) = true := by simpa using hd
      clear hd
      generalize dstE regs dst = ev at *
      go_wp2_with fail
      go_ret
      exact ⟨ret_int HE.out.symm, HB1.out⟩
end Go.Proofs.YtiknhfbkphoceaaGreatDoor
