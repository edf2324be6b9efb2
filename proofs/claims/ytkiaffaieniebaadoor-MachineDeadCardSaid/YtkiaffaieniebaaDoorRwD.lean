/-
  The law MachineDead walks to true.
  Conditions: the numbers are of 64 bits; the table shapes lies as its initialiser lays it.
-/
import Derived.Test.YtkiaffaieniebaaDoorRwC
import Derived.Test.YtkiaffaieniebaaDoorLsA
import Derived.Test.YtkiaffaieniebaaDoorLiD
import Derived.Test.YtkiaffaieniebaaDoorRuT
namespace Go.Proofs.YtkiaffaieniebaaDoor
open Go.RowKit

theorem liveL_of {l : List Mac} (h : (checkS l).1 = 0) : liveL l = liveTo l l.length := by unfold liveL; rw [if_pos h]
theorem liveTo_at (l : List Mac) {k n : Nat} (h : k < n) : (liveTo l n)[k]? = some (listP (fun r => liveB l r k) 16) := by unfold liveTo; rw [List.getElem?_map, List.getElem?_range h]; rfl
set_option maxRecDepth 100000 in
set_option maxHeartbeats 2000000 in
theorem MachineDead_any (va vi : Value) (la li : List Int) (az rz nz : Int) (w : World) (ha : IntsAt w w.heap.size va la) (hi : IntsAt w w.heap.size vi li)
    (hia : ∀ x ∈ la, I64 x) (haz : I64 az) (hrz : I64 rz) (hnz : I64 nz) (ht : Tab w) :
    Calls Tryd.prog 12 #[va, vi, .int .i64 az, .int .i64 rz, .int .i64 nz] w fun e w' => e = .returned (.bool true) ∧ Below w.heap.size w w' := by
  have hcode := CodeOf_any va la 30 30 0 w rfl ha hia (by omega) (by omega) (by omega)
  have hD := dead_code hia
  have hlen := codeOf_len la 30 0
  generalize codeOf la 30 0 = l at hcode hD hlen
  have hl31 : 0 < l.length ∧ l.length ≤ 31 := by rw [hlen]; omega
  have hck := check_zero hD.ck
  have hlv := liveL_of hD.ck
  have hx8 : (li.take 8).length ≤ 30 := by rw [List.length_take]; omega
  have HCode := Lib.hid hcode
  have HD := Lib.hid hD
  have HT := Lib.hid ht
  have HIn := Lib.hid hi
  have HN := Lib.hid (And.intro haz (And.intro hrz hnz))
  obtain ⟨len, hln⟩ : ∃ len, l.length = len := ⟨_, rfl⟩
  have HLen := Lib.hid hln
  rw [hln] at hl31 hlv
  have HLive : Hid (∀ (v : Value) (W : World), MacsAt W W.heap.size v l → Tab W → Calls Tryd.prog 29 #[v] W (RowsPost W (0, 0) (liveTo l len))) := Lib.hid fun v W h1 h2 => by
    have := Live_any v l W h1 h2
    rw [hck, hlv] at this
    exact this
  obtain ⟨xs, hxs⟩ : ∃ xs, li.take 8 = xs := ⟨_, rfl⟩
  have HXS := Lib.hid hxs
  rw [hxs] at hx8
  have HX8 := Lib.hid hx8
  obtain ⟨X, hX⟩ : ∃ X, (runS [l] (startS [5, 0, 0] xs) 500).told = X := ⟨_, rfl⟩
  have HXe := Lib.hid hX
  have HX : Hid (∀ (gv rv iv : Value) (V : World) (base : Nat), GlobsAt V V.heap.size gv kGlobs → RoutsAt V V.heap.size rv [⟨mainB, codeL l⟩] → V.ownsRow base 3 1 iv xs.length (intV xs) → Tab V →
    Calls Tryd.prog 14 #[.agg #[gv, rv], iv, .int .i64 500] V fun e w' => ∃ A c, e = .returned (runV X (.slice A X.out.length c) (0, 0)) ∧ w'.ownsRow V.heap.size 3 1 (.slice A X.out.length c) X.out.length (intV X.out) ∧ Below V.heap.size V w') :=
    Lib.hid fun gv rv iv V base h1 h2 h3 h4 => by rw [← hX]; exact Run_alone (n := 500) hD.ck hD.ok hD.far hx8 (by omega) h1 h2 h3 h4
  clear hX
  clear hcode hD hck hlv hxs hx8 hlen ha hi haz hrz hnz ht hln hia
  go_enter Tryd.func12, Tryd.ntmps12
  go_wp2_with fail
  refine HCode.out.mono ?_
  rintro e w1 ⟨lv, rfl, hl, hb1⟩
  have HL1 := Lib.hid hl
  have HB1 := Lib.hid hb1
  obtain ⟨Al, cl, hlv⟩ := row_form hl
  rw [HLen.out] at hlv
  subst hlv
  clear hl hb1
  go_wp2_with fail
  refine (HLive.out _ w1 HL1.out.macs (HT.out.own HB1.out)).mono ?_
  rintro e w2 ⟨vL, rfl, ⟨AL, cL, hvL, hcL1, hcL2, hcL3⟩, hb2⟩
  rw [liveTo_len] at hvL hcL1 hcL3
  subst hvL
  have HR2 := Lib.hid (hcL3 (by omega))
  have HL2 := Lib.hid (HL1.out.below hb2 rfl)
  have HB2 := Lib.hid (HB1.out.trans (hb2.mono HB1.out.size))
  clear hcL3 hb2 HL1 HB1
  go_upto_region 3 with fail
  have HK3 := Lib.hid (Blk.new w2 30 #[.int .i64 0, .int .i64 0])
  have HA3 : Hid (Below w2.heap.size w2 (w2.alloc (.cells #[.int .i64 0, .int .i64 0] 30))) := Lib.hid ((Below.refl _ _).alloc (Nat.le_refl _) _)
  generalize w2.alloc (.cells #[.int .i64 0, .int .i64 0] 30) = W3 at *
  have b0 := HK3.out.cell 0
  have hbl : ((len : Int) == (len : Int)) = true := by simp
  go_wp2_with fail
  refine (Sure_any W3 (HT.out.own (HB2.out.trans (HA3.out.mono HB2.out.size)))).mono ?_
  rintro e w4 ⟨rfl, hb4⟩
  have HA4 := Lib.hid (HA3.out.trans (hb4.mono HA3.out.size))
  clear hb4 b0 HK3 hbl HA3
  have HB4 := Lib.hid (HB2.out.trans (HA4.out.mono HB2.out.size))
  have HL4 := Lib.hid (HL2.out.below HA4.out rfl)
  go_wp2_with fail
  refine (Picked_any az len _ (by omega) (by omega) HN.out.1).mono ?_
  rintro e w' ⟨rfl, rfl⟩
  obtain ⟨k, hk⟩ : ∃ k : Nat, az % (len : Int) = k := ⟨(az % (len : Int)).toNat, by have := Int.emod_nonneg az (show (len : Int) ≠ 0 by omega); omega⟩
  have hkl : k < len := by have := Int.emod_lt_of_pos az (show (0 : Int) < (len : Int) by omega); omega
  rw [hk]
  clear hk
  go_wp2_with fail
  refine (Picked_any rz 16 _ (by omega) (by omega) HN.out.2.1).mono ?_
  rintro e w' ⟨rfl, rfl⟩
  obtain ⟨r, hr⟩ : ∃ k : Nat, rz % 16 = k := ⟨(rz % 16).toNat, by omega⟩
  have hr16 : r < 16 := by omega
  rw [hr]
  clear hr
  obtain ⟨bL, oL, hAL, hbL, hcell⟩ := HR2.out
  subst hAL
  obtain ⟨rv0, hrc, hri⟩ := hcell k _ (liveTo_at l hkl)
  have c1 := (bcell HA4.out hbL).trans hrc
  have HR4 := Lib.hid ((hri.below HA4.out (Nat.le_refl _)).more HA4.out.size)
  have hk0 : (0 : Int) ≤ (k : Int) := Int.natCast_nonneg _
  have hk1 : (k : Int) < (len : Int) := by omega
  clear hcell hrc hri HR2
  go_wp2_with fail
  refine (hasInt_any _ _ _ _ _ HR4.out).mono ?_
  rintro e w' ⟨rfl, rfl⟩
  rw [hasB_list _ _ _ hr16]
  cases hlive : liveB l r k
  · have HNo := Lib.hid hlive
    clear hlive c1 HR4
    go_wp2_with fail
    refine (Alone_any _ l w4 HL4.out.macs HD.out.ck HD.out.ok).mono ?_
    rintro e w5 ⟨gv, rv, rfl, hgr, hb5⟩
    have HGR := Lib.hid hgr
    have HB5 := Lib.hid (HB4.out.trans (hb5.mono HB4.out.size))
    have HL5 := Lib.hid (HL4.out.below hb5 rfl)
    clear hgr hb5 HL4 HL2
    go_wp2_with fail
    refine (Input_any vi li w5 ((HIn.out.below HB5.out (Nat.le_refl _)).more HB5.out.size)).mono ?_
    rintro e w6 ⟨iv, rfl, hu, hb6⟩
    rw [HXS.out] at hu
    obtain ⟨hg6, hr6⟩ := HGR.out w6 (Turn.of_below hb6)
    have HB6 := Lib.hid (HB5.out.trans (hb6.mono HB5.out.size))
    have HL6 := Lib.hid (HL5.out.below hb6 rfl)
    have hcall := HX.out gv rv iv w6 _ (hg6.more hb6.size) (hr6.more hb6.size) hu (HT.out.own HB6.out)
    have HCall := Lib.hid hcall
    clear hg6 hr6 hu hb6 HGR HL5 hcall
    go_wp2_with fail
    refine HCall.out.mono ?_
    rintro e w7 ⟨Ax, cx, rfl, hox, hb7⟩
    unfold runV outV faultV
    obtain ⟨lx, hlx⟩ : ∃ n, X.out.length = n := ⟨_, rfl⟩
    have HLx := Lib.hid hlx
    rw [hlx] at hox
    rw [hlx]
    have HO7 := Lib.hid hox
    have hA8 : Below w7.heap.size w7 ((w7.alloc (.cells #[.int .i64 X.state, .int .i64 X.value, .slice Ax lx cx, .int .i64 (X.steps : Int)] 28)).alloc (.cells #[.int .i64 0, .int .i64 0] 30)) := ((Below.refl _ _).alloc (Nat.le_refl _) _).alloc (by simp) _
    have HL8 := Lib.hid ((HL6.out.below hb7 rfl).below hA8 rfl)
    have HB7 := Lib.hid (HB6.out.trans (hb7.mono HB6.out.size))
    have HB8 := Lib.hid (HB7.out.trans (hA8.mono HB7.out.size))
    have HO8 := Lib.hid (row_lt HO7.out hA8)
    have HK8 := Lib.hid ((Blk.new w7 28 #[.int .i64 X.state, .int .i64 X.value, .slice Ax lx cx, .int .i64 (X.steps : Int)]).alloc (.cells #[.int .i64 0, .int .i64 0] 30))
    have HF8 : Hid (Blk ((w7.alloc (.cells #[.int .i64 X.state, .int .i64 X.value, .slice Ax lx cx, .int .i64 (X.steps : Int)] 28)).alloc (.cells #[.int .i64 0, .int .i64 0] 30)) (w7.heap.size + 1) 30 #[.int .i64 0, .int .i64 0]) := Lib.hid (by
      have := Blk.new (w7.alloc (.cells #[.int .i64 X.state, .int .i64 X.value, .slice Ax lx cx, .int .i64 (X.steps : Int)] 28)) 30 #[.int .i64 0, .int .i64 0]
      simpa using this)
    clear hA8 hb7 hox HO7 HB7 HL6 HCall hlx HB6 HB5
    go_upto_region 10 with fail
    generalize (w7.alloc (.cells #[.int .i64 X.state, .int .i64 X.value, .slice Ax lx cx, .int .i64 (X.steps : Int)] 28)).alloc (.cells #[.int .i64 0, .int .i64 0] 30) = W8 at *
    generalize w7.heap.size = g7 at *
    have hkl' : k < l.length := by rw [HLen.out]; exact hkl
    have hl5 : l.length < 5000 := by rw [HLen.out]; omega
    have hD2 := HD.out.put (reg := (r : Int)) (n := nz) hkl' hl5 (by omega) (by omega) HN.out.2.2
    have hlaw := dead_law (n := nz) (reg := (r : Int)) HD.out.good HD.out.no hkl' (by omega) (by omega) (by rw [Int.toNat_natCast]; exact HNo.out) [5, 0, 0] xs 500
    rw [HXe.out] at hlaw
    have HPut := Lib.hid (Put_any _ l k ⟨1, (r : Int), 0, 0, nz⟩ W8 HL8.out.macs hkl' (by omega) fun m hm ht => by have := HD.out.jump m hm ht; rw [HLen.out] at this; omega)
    generalize putL l k ⟨1, (r : Int), 0, 0, nz⟩ = l2 at *
    obtain ⟨Y, hY⟩ : ∃ Y, (runS [l2] (startS [5, 0, 0] xs) 1001).told = Y := ⟨_, rfl⟩
    have HY : Hid (∀ (gv rv iv : Value) (V : World) (base : Nat), GlobsAt V V.heap.size gv kGlobs → RoutsAt V V.heap.size rv [⟨mainB, codeL l2⟩] → V.ownsRow base 3 1 iv xs.length (intV xs) → Tab V →
      Calls Tryd.prog 14 #[.agg #[gv, rv], iv, .int .i64 1001] V fun e w' => ∃ A c, e = .returned (runV Y (.slice A Y.out.length c) (0, 0)) ∧ w'.ownsRow V.heap.size 3 1 (.slice A Y.out.length c) Y.out.length (intV Y.out) ∧ Below V.heap.size V w') :=
      Lib.hid fun gv rv iv V base h1 h2 h3 h4 => by rw [← hY]; exact Run_alone (n := 1001) hD2.ck hD2.ok hD2.far HX8.out (by omega) h1 h2 h3 h4
    have HLaw : Hid (X.state = 1 ∨ (Y.state = X.state ∧ Y.value = X.value ∧ Y.out = X.out)) := Lib.hid (by rw [← hY]; exact hlaw)
    have HD2 := Lib.hid hD2
    clear hkl' hl5 hD2 hlaw hY HNo HXe HX HL8
    go_wp2_with fail
    refine HPut.out.mono ?_
    rintro e w9 ⟨mv, rfl, hl9, hb9⟩
    have HL9 := Lib.hid hl9
    have HB9 := Lib.hid (HB8.out.trans (hb9.mono HB8.out.size))
    have HW9 := Lib.hid hb9
    clear hl9 hb9 HPut
    go_wp2_with fail
    refine (Alone_any _ l2 w9 HL9.out.macs HD2.out.ck HD2.out.ok).mono ?_
    rintro e w10 ⟨gv2, rv2, rfl, hgr, hb10⟩
    have HGR := Lib.hid hgr
    have HB10 := Lib.hid (HB9.out.trans (hb10.mono HB9.out.size))
    have HW10 := Lib.hid (HW9.out.trans (hb10.mono HW9.out.size))
    clear hgr hb10 HL9
    go_wp2_with fail
    refine (Input_any vi li w10 ((HIn.out.below HB10.out (Nat.le_refl _)).more HB10.out.size)).mono ?_
    rintro e w11 ⟨iv2, rfl, hu, hb11⟩
    rw [HXS.out] at hu
    obtain ⟨hg6, hr6⟩ := HGR.out w11 (Turn.of_below hb11)
    have HB11 := Lib.hid (HB10.out.trans (hb11.mono HB10.out.size))
    have HW11 := Lib.hid (HW10.out.trans (hb11.mono HW10.out.size))
    have hcall := HY.out gv2 rv2 iv2 w11 _ (hg6.more hb11.size) (hr6.more hb11.size) hu (HT.out.own HB11.out)
    have HCall := Lib.hid hcall
    clear hg6 hr6 hu hb11 HGR hcall HY
    go_wp2_with fail
    refine HCall.out.mono ?_
    rintro e w12 ⟨Ay, cy, rfl, hoy, hb12⟩
    unfold runV outV faultV
    obtain ⟨ly, hly⟩ : ∃ n, Y.out.length = n := ⟨_, rfl⟩
    have HLy := Lib.hid hly
    rw [hly] at hoy
    rw [hly]
    have HO12 := Lib.hid hoy
    have hA13 : Below w12.heap.size w12 ((w12.alloc (.cells #[.int .i64 Y.state, .int .i64 Y.value, .slice Ay ly cy, .int .i64 (Y.steps : Int)] 28)).alloc (.cells #[.int .i64 0, .int .i64 0] 30)) := ((Below.refl _ _).alloc (Nat.le_refl _) _).alloc (by simp) _
    have HB12 := Lib.hid (HB11.out.trans (hb12.mono HB11.out.size))
    have HB13 := Lib.hid (HB12.out.trans (hA13.mono HB12.out.size))
    have HW13 := Lib.hid ((HW11.out.trans (hb12.mono HW11.out.size)).trans (hA13.mono (Nat.le_trans HW11.out.size hb12.size)))
    have HO13 := Lib.hid (row_lt HO12.out hA13)
    have HK13 := Lib.hid ((Blk.new w12 28 #[.int .i64 Y.state, .int .i64 Y.value, .slice Ay ly cy, .int .i64 (Y.steps : Int)]).alloc (.cells #[.int .i64 0, .int .i64 0] 30))
    have HF13 : Hid (Blk ((w12.alloc (.cells #[.int .i64 Y.state, .int .i64 Y.value, .slice Ay ly cy, .int .i64 (Y.steps : Int)] 28)).alloc (.cells #[.int .i64 0, .int .i64 0] 30)) (w12.heap.size + 1) 30 #[.int .i64 0, .int .i64 0]) := Lib.hid (by
      have := Blk.new (w12.alloc (.cells #[.int .i64 Y.state, .int .i64 Y.value, .slice Ay ly cy, .int .i64 (Y.steps : Int)] 28)) 30 #[.int .i64 0, .int .i64 0]
      simpa using this)
    clear hA13 hb12 hoy HO12 HB12 HCall hly HB11 HB10 HW9 HW10 HW11 HB9
    go_upto_region 11 with fail
    generalize (w12.alloc (.cells #[.int .i64 Y.state, .int .i64 Y.value, .slice Ay ly cy, .int .i64 (Y.steps : Int)] 28)).alloc (.cells #[.int .i64 0, .int .i64 0] 30) = W13 at *
    generalize w12.heap.size = g12 at *
    have HK8' := Lib.hid (HK8.out.below HW13.out HK8.out.lt)
    have HIx := Lib.hid (row_ints (row_lt HO8.out HW13.out) HLx.out.symm)
    have HIy := Lib.hid (row_ints HO13.out HLy.out.symm)
    have b0 := (HF8.out.below HW13.out HF8.out.lt).cell 0
    have b1 := HF13.out.cell 0
    have a0 := HK8'.out.cell 0
    have a1 := HK8'.out.cell 1
    have a2 := HK8'.out.cell 2
    have a3 := HK8'.out.cell 3
    have c0 := HK13.out.cell 0
    have c1 := HK13.out.cell 1
    have c2 := HK13.out.cell 2
    have c3 := HK13.out.cell 3
    by_cases hs1 : X.state = 1
    · rw [hs1] at a0
      clear hs1
      go_wp2_with fail
      go_ret
      exact ⟨rfl, HB13.out⟩
    · have hb : (X.state == 1) = false := by simpa using hs1
      have hlaw : Y.state = X.state ∧ Y.value = X.value ∧ Y.out = X.out := by
        rcases HLaw.out with h | h
        · exact absurd h hs1
        · exact h
      have HLw := Lib.hid hlaw
      clear hs1 hlaw
      go_wp2_with fail
      refine (KComes_any X Y _ _ W13 HIx.out HIy.out HLw.out.1 HLw.out.2.1 HLw.out.2.2).mono ?_
      rintro e w14 ⟨rfl, hb14⟩
      have HB14 := Lib.hid (HB13.out.trans (hb14.mono HB13.out.size))
      clear hb14
      go_wp2_with fail
      go_ret
      exact ⟨rfl, HB14.out⟩
  · go_wp2_with fail
    go_ret
    exact ⟨rfl, HB4.out⟩
end Go.Proofs.YtkiaffaieniebaaDoor
