/-
  Texts of the claim AsmApartBack (KtC): what each proves stands at its theorems.
  Conditions: as the theorems say.
-/
import Derived.Deep.DeepCutAuto
import Derived.Deep.RegionHeld3
import Derived.Deep.DrawnRows
import Derived.Deep.AppendLies
import Derived.Test.YtdldochhondifaaGreatDoorYKtP
import Derived.Test.YtdldochhondifaaGreatDoorYKitD
namespace Go.Proofs.YtdldochhondifaaGreatDoor
open Go.RowKit

theorem tmod_neg (a n : Int) (hn : 0 < n) (ha : a < 0) : (a.tmod n < 0 ∧ a.tmod n + n = a % n ∧ -n < a.tmod n) ∨ (a.tmod n = 0 ∧ a % n = 0) := by
  have h := @Int.tmod_eq_emod a n
  have h1 := Int.emod_nonneg a (show n ≠ 0 by omega)
  have h2 := Int.emod_lt_of_pos a hn
  by_cases hd : n ∣ a
  · right
    rw [if_pos (.inr hd)] at h
    have := Int.emod_eq_zero_of_dvd hd
    omega
  · left
    rw [if_neg (by rintro (h | h); omega; exact hd h)] at h
    have h3 : (n.natAbs : Int) = n := by omega
    rw [h3] at h
    omega
set_option maxHeartbeats 1000000 in
theorem Picked_any (a n : Int) (w : World) (hn : 0 < n) (hn2 : n ≤ 9223372036854775807) (ha : I64 a) :
    Calls Tryz.prog 15 #[.int .i64 a, .int .i64 n] w fun e w' => e = .returned (.int .i64 (a % n)) ∧ w = w' := by
  unfold I64 at ha
  obtain ⟨ha1, ha2⟩ := ha
  by_cases h0 : 0 ≤ a
  · have h1 := Int.emod_nonneg a (show n ≠ 0 by omega)
    have h2 := Int.emod_lt_of_pos a hn
    go_enter Tryz.func15, Tryz.ntmps15
    go_wp2
    go_ret
    exact ⟨rfl, rfl⟩
  · have hneg : a < 0 := by omega
    rcases tmod_neg a n hn hneg with ⟨h1, h2, h3⟩ | ⟨h1, h2⟩
    · have H2 := Lib.hid h2
      clear h2
      go_enter Tryz.func15, Tryz.ntmps15
      go_wp2
      go_ret
      exact ⟨ret_int H2.out, rfl⟩
    · have H2 := Lib.hid h2
      clear h2
      go_enter Tryz.func15, Tryz.ntmps15
      go_wp2
      go_ret
      exact ⟨ret_int H2.out.symm, rfl⟩
/-- The shapes that there are. -/
theorem shapes (op : Int) (h : isOp op = true) : ∃ d a b : Bool, ∃ n t w r : Bool, hasS (fldS op) 100 = d ∧ hasS (fldS op) 97 = a ∧ hasS (fldS op) 98 = b ∧ hasS (fldS op) 110 = n ∧ hasS (fldS op) 116 = t ∧ hasS (fldS op) 119 = w ∧ hasS (fldS op) 114 = r ∧
    (d, a, b, n, t, w, r) ∈ [(true, true, true, false, false, false, false), (true, true, false, true, false, false, false), (false, true, true, false, true, false, false), (true, false, false, true, false, false, false), (true, true, false, false, false, false, false),
      (false, true, true, true, false, false, false), (true, false, false, false, false, true, false), (false, true, false, false, false, true, false), (false, false, false, false, true, false, false), (false, true, false, false, true, false, false),
      (false, false, false, false, false, false, true), (false, false, false, false, false, false, false), (true, false, false, false, false, false, false), (false, true, false, false, false, false, false)] := by
  rw [isOp_iff] at h
  refine ⟨_, _, _, _, _, _, _, rfl, rfl, rfl, rfl, rfl, rfl, rfl, ?_⟩
  have key : ∀ k : Fin 48, 1 ≤ k.val → (hasS (fldS (k.val : Int)) 100, hasS (fldS (k.val : Int)) 97, hasS (fldS (k.val : Int)) 98, hasS (fldS (k.val : Int)) 110, hasS (fldS (k.val : Int)) 116, hasS (fldS (k.val : Int)) 119, hasS (fldS (k.val : Int)) 114) ∈
      [(true, true, true, false, false, false, false), (true, true, false, true, false, false, false), (false, true, true, false, true, false, false), (true, false, false, true, false, false, false), (true, true, false, false, false, false, false),
      (false, true, true, true, false, false, false), (true, false, false, false, false, true, false), (false, true, false, false, false, true, false), (false, false, false, false, true, false, false), (false, true, false, false, true, false, false),
      (false, false, false, false, false, false, true), (false, false, false, false, false, false, false), (true, false, false, false, false, false, false), (false, true, false, false, false, false, false)] := by decide +kernel
  have := key ⟨op.toNat, by omega⟩ (by simp; omega)
  simp only [show ((op.toNat : Nat) : Int) = op from by omega] at this
  exact this
end Go.Proofs.YtdldochhondifaaGreatDoor
namespace Go.Proofs.YtdldochhondifaaGreatDoor
open Go.RowKit

/-- The instruction under way: block g holds it; nothing below B has changed. -/
def MacNow (B gr g : Nat) (w : World) (op d a b n : Int) (wx : World) : Prop := Hid (Blk wx gr 39 #[.int .i64 0, .int .i64 0, .int .i64 0, .int .i64 0, .int .i64 0]) ∧ Hid (Blk wx g 39 #[.int .i64 op, .int .i64 d, .int .i64 a, .int .i64 b, .int .i64 n]) ∧ Hid (Below B w wx)
theorem MacNow.put1 {B gr g : Nat} {w wx : World} {op d a b n : Int} (h : MacNow B gr g w op d a b n wx) (hne : gr ≠ g) (hB : B ≤ g) (x : Int) : MacNow B gr g w op x a b n (wx.setCell ⟨g, 1, none⟩ (.int .i64 x)) :=
  ⟨Lib.hid (h.1.out.far (p := ⟨g, 1, none⟩) hne _), Lib.hid (h.2.1.out.set_ 1 _), Lib.hid (h.2.2.out.setCell hB _)⟩
theorem MacNow.put2 {B gr g : Nat} {w wx : World} {op d a b n : Int} (h : MacNow B gr g w op d a b n wx) (hne : gr ≠ g) (hB : B ≤ g) (x : Int) : MacNow B gr g w op d x b n (wx.setCell ⟨g, 2, none⟩ (.int .i64 x)) :=
  ⟨Lib.hid (h.1.out.far (p := ⟨g, 2, none⟩) hne _), Lib.hid (h.2.1.out.set_ 2 _), Lib.hid (h.2.2.out.setCell hB _)⟩
theorem MacNow.put3 {B gr g : Nat} {w wx : World} {op d a b n : Int} (h : MacNow B gr g w op d a b n wx) (hne : gr ≠ g) (hB : B ≤ g) (x : Int) : MacNow B gr g w op d a x n (wx.setCell ⟨g, 3, none⟩ (.int .i64 x)) :=
  ⟨Lib.hid (h.1.out.far (p := ⟨g, 3, none⟩) hne _), Lib.hid (h.2.1.out.set_ 3 _), Lib.hid (h.2.2.out.setCell hB _)⟩
theorem MacNow.put4 {B gr g : Nat} {w wx : World} {op d a b n : Int} (h : MacNow B gr g w op d a b n wx) (hne : gr ≠ g) (hB : B ≤ g) (x : Int) : MacNow B gr g w op d a b x (wx.setCell ⟨g, 4, none⟩ (.int .i64 x)) :=
  ⟨Lib.hid (h.1.out.far (p := ⟨g, 4, none⟩) hne _), Lib.hid (h.2.1.out.set_ 4 _), Lib.hid (h.2.2.out.setCell hB _)⟩
theorem bset {g : Nat} {a w : World} (o : Nat) (h : Below g a w) (u : Value) : Below g a (w.setCell ⟨g, o, none⟩ u) := h.setCell (p := ⟨g, o, none⟩) (Nat.le_refl _) u
def isRet (a routines : Int) : Bool := decide (1 + a % 47 = 45 ∨ (1 + a % 47 = 44 ∧ routines = 0))
theorem opOf_ret (a routines : Int) : opOf a routines = if isRet a routines then 47 else 1 + a % 47 := by unfold opOf isRet; simp
theorem tdiv_i64 {b c : Int} (h : I64 b) (hc : 1 ≤ c) : I64 (b.tdiv c) := by
  unfold I64 at *
  rcases Int.le_total 0 b with h0 | h0
  · rw [Int.tdiv_eq_ediv_of_nonneg h0]
    have h1 : b / c ≤ b := Int.ediv_le_self c h0
    have h2 : 0 ≤ b / c := Int.ediv_nonneg h0 (by omega)
    omega
  · have e : b.tdiv c = -((-b).tdiv c) := by rw [Int.neg_tdiv, Int.neg_neg]
    rw [e, Int.tdiv_eq_ediv_of_nonneg (show 0 ≤ -b by omega)]
    have h1 : -b / c ≤ -b := Int.ediv_le_self c (by omega)
    have h2 : 0 ≤ -b / c := Int.ediv_nonneg (by omega) (by omega)
    omega

set_option maxRecDepth 100000 in
set_option maxHeartbeats 4000000 in
theorem MacOf_any (a b n many routines : Int) (w : World) (ha : I64 a) (hb : I64 b) (hn : I64 n) (hm : 0 < many) (hm2 : many ≤ 9223372036854775807) (hr : 0 ≤ routines) (hr2 : routines ≤ 9223372036854775807) :
    Calls Tryz.prog 32 #[.int .i64 a, .int .i64 b, .int .i64 n, .int .i64 many, .int .i64 routines] w fun e w' => e = .returned (.agg (macOf a b n many routines).cells.toArray) ∧ Below w.heap.size w w' := by
  have Ha := Lib.hid ha
  have Hb := Lib.hid hb
  have Hn := Lib.hid hn
  have hop := opOf_in a routines
  have hq4 := IntWalk.wrap64_in (b.tdiv 4) (by have := tdiv_i64 hb (show (1 : Int) ≤ 4 by omega); exact this)
  have hq16 := IntWalk.wrap64_in (b.tdiv 16) (by have := tdiv_i64 hb (show (1 : Int) ≤ 16 by omega); exact this)
  have hq64 := IntWalk.wrap64_in (b.tdiv 64) (by have := tdiv_i64 hb (show (1 : Int) ≤ 64 by omega); exact this)
  have HZ := Lib.hid (fld_ok (opOf a routines))
  have hp0 : 0 ≤ a % 47 := by omega
  have hp1 : a % 47 < 47 := by omega
  have HE : Hid (∀ (d x y z : Int), d = (macOf a b n many routines).dst → x = (macOf a b n many routines).a → y = (macOf a b n many routines).b → z = (macOf a b n many routines).n →
      Ending.returned (.agg #[.int .i64 (opOf a routines), .int .i64 d, .int .i64 x, .int .i64 y, .int .i64 z]) = .returned (.agg (macOf a b n many routines).cells.toArray)) :=
    Lib.hid fun d x y z h1 h2 h3 h4 => by subst h1; subst h2; subst h3; subst h4; rfl
  clear ha hb hn
  go_enter Tryz.func32, Tryz.ntmps32
  go_wp2_with fail
  refine (Picked_any a 47 _ (by omega) (by omega) Ha.out).mono ?_
  rintro e w' ⟨rfl, rfl⟩
  go_upto_region 2 with fail
  go_cut [26] (fun s wx => s = .bool (isRet a routines) ∧ wx = w.alloc (.cells #[.int .i64 0, .int .i64 0, .int .i64 0, .int .i64 0, .int .i64 0] 39))
  case first =>
    by_cases h45 : 1 + a % 47 = 45
    · have e1 : (1 + a % 47 == 45) = true := by simp [h45]
      have HR : Hid (isRet a routines = true) := Lib.hid (by unfold isRet; simp [h45])
      clear h45
      go_wp2_with fail
      go_meet
      exact ⟨by rw [HR.out], rfl⟩
    · have e1 : (1 + a % 47 == 45) = false := by simp [h45]
      by_cases h44 : 1 + a % 47 = 44
      · have e2 : (1 + a % 47 == 44) = true := by simp [h44]
        by_cases hr0 : routines = 0
        · have e3 : (routines == 0) = true := by simp [hr0]
          have HR : Hid (isRet a routines = true) := Lib.hid (by unfold isRet; simp [h44, hr0])
          clear h45 h44 hr0
          go_wp2_with fail
          go_meet
          exact ⟨by rw [HR.out], rfl⟩
        · have e3 : (routines == 0) = false := by simp [hr0]
          have HR : Hid (isRet a routines = false) := Lib.hid (by unfold isRet; simp [h44, hr0])
          clear h45 h44 hr0
          go_wp2_with fail
          go_meet
          exact ⟨by rw [HR.out], rfl⟩
      · have e2 : (1 + a % 47 == 44) = false := by simp [h44]
        have HR : Hid (isRet a routines = false) := Lib.hid (by unfold isRet; simp [h44, h45])
        clear h45 h44
        go_wp2_with fail
        go_meet
        exact ⟨by rw [HR.out], rfl⟩
  case rest =>
    obtain ⟨rfl, rfl⟩ := hcut
    have HOp := Lib.hid (opOf_ret a routines)
    go_upto_if 26 with fail
    go_cut [11] (fun s wx => s = .int .i64 (opOf a routines) ∧ wx = w.alloc (.cells #[.int .i64 0, .int .i64 0, .int .i64 0, .int .i64 0, .int .i64 0] 39))
    case first =>
      cases hR : isRet a routines
      all_goals
        rw [hR] at HOp
        clear hR
        go_wp2_with fail
        go_meet
        exact ⟨by rw [HOp.out]; rfl, rfl⟩
    case rest =>
      obtain ⟨rfl, rfl⟩ := hcut
      go_wp2_with fail
      refine (Fields_any _ _).mono ?_
      rintro e w1 ⟨rfl, hb1⟩
      have hz : w.heap.size < w1.heap.size := by have := hb1.size; simp at this; omega
      have HN : MacNow w.heap.size w.heap.size w1.heap.size w (opOf a routines) 0 0 0 0 (w1.alloc (.cells #[.int .i64 (opOf a routines), .int .i64 0, .int .i64 0, .int .i64 0, .int .i64 0] 39)) :=
        ⟨Lib.hid (((Blk.new w 39 #[.int .i64 0, .int .i64 0, .int .i64 0, .int .i64 0, .int .i64 0]).below hb1 (by simp)).alloc _), Lib.hid (Blk.new _ _ _), Lib.hid ((((Below.refl _ _).alloc (Nat.le_refl _) _).trans (hb1.mono (by simp))).alloc (by omega) _)⟩
      clear hb1
      go_upto_if 32 with (go_at_call 76; refine (Has_any _ _ _ HZ.out).mono ?_; rintro e w' ⟨rfl, rfl⟩)
      generalize w1.alloc (.cells #[.int .i64 (opOf a routines), .int .i64 0, .int .i64 0, .int .i64 0, .int .i64 0] 39) = W at *
      generalize hgm : w1.heap.size = gm at *
      generalize hgr : w.heap.size = gr at *
      have Hgr := Lib.hid hgr
      clear hgm hgr HOp
      have hne : gr ≠ gm := by omega
      have hle : gr ≤ gm := by omega
      clear hz
      go_cut [11] (fun s wx => s = .int .i64 (opOf a routines) ∧ ∃ d : Int, Hid (d = (if hasS (fldS (opOf a routines)) 100 then b % 4 else 0)) ∧ MacNow gr gr gm w (opOf a routines) d 0 0 0 wx)
      case first =>
        cases hh : hasS (fldS (opOf a routines)) 100
        · have Hh := Lib.hid hh
          go_wp2_with fail
          go_meet
          exact ⟨rfl, _, Lib.hid (by rw [Hh.out]; rfl), HN⟩
        · have Hh := Lib.hid hh
          have c0 := HN.2.1.out.cell 1
          have f0 := HN.2.1.out.frozen 1
          go_wp2_with fail
          refine (Picked_any b 4 _ (by omega) (by omega) Hb.out).mono ?_
          rintro e w' ⟨rfl, rfl⟩
          go_wp2_with fail
          go_meet
          exact ⟨rfl, _, Lib.hid (by rw [Hh.out]; rfl), HN.put1 hne hle _⟩
      case rest =>
        obtain ⟨rfl, d, Hd, HN⟩ := hcut
        go_upto_if 37 with (go_at_call 76; refine (Has_any _ _ _ HZ.out).mono ?_; rintro e w' ⟨rfl, rfl⟩)
        go_cut [11] (fun s wx => s = .int .i64 (opOf a routines) ∧ ∃ x : Int, Hid (x = (if hasS (fldS (opOf a routines)) 97 then (b.tdiv 4) % 4 else 0)) ∧ MacNow gr gr gm w (opOf a routines) d x 0 0 wx)
        case first =>
          cases hh : hasS (fldS (opOf a routines)) 97
          · have Hh := Lib.hid hh
            go_wp2_with fail
            go_meet
            exact ⟨rfl, _, Lib.hid (by rw [Hh.out]; rfl), HN⟩
          · have Hh := Lib.hid hh
            have c0 := HN.2.1.out.cell 2
            have f0 := HN.2.1.out.frozen 2
            go_wp2_with fail
            refine (Picked_any (b.tdiv 4) 4 _ (by omega) (by omega) (tdiv_i64 Hb.out (by omega))).mono ?_
            rintro e w' ⟨rfl, rfl⟩
            go_wp2_with fail
            go_meet
            exact ⟨rfl, _, Lib.hid (by rw [Hh.out]; rfl), HN.put2 hne hle _⟩
        case rest =>
          obtain ⟨rfl, x, Hx, HN⟩ := hcut
          go_upto_if 43 with (go_at_call 76; refine (Has_any _ _ _ HZ.out).mono ?_; rintro e w' ⟨rfl, rfl⟩)
          go_cut [11] (fun s wx => s = .int .i64 (opOf a routines) ∧ ∃ y : Int, Hid (y = (if hasS (fldS (opOf a routines)) 98 then (b.tdiv 16) % 4 else 0)) ∧ MacNow gr gr gm w (opOf a routines) d x y 0 wx)
          case first =>
            cases hh : hasS (fldS (opOf a routines)) 98
            · have Hh := Lib.hid hh
              go_wp2_with fail
              go_meet
              exact ⟨rfl, _, Lib.hid (by rw [Hh.out]; rfl), HN⟩
            · have Hh := Lib.hid hh
              have c0 := HN.2.1.out.cell 3
              have f0 := HN.2.1.out.frozen 3
              go_wp2_with fail
              refine (Picked_any (b.tdiv 16) 4 _ (by omega) (by omega) (tdiv_i64 Hb.out (by omega))).mono ?_
              rintro e w' ⟨rfl, rfl⟩
              go_wp2_with fail
              go_meet
              exact ⟨rfl, _, Lib.hid (by rw [Hh.out]; rfl), HN.put3 hne hle _⟩
          case rest =>
            obtain ⟨rfl, y, Hy, HN⟩ := hcut
            go_upto_if 49 with (go_at_call 76; refine (Has_any _ _ _ HZ.out).mono ?_; rintro e w' ⟨rfl, rfl⟩)
            go_cut [11] (fun s wx => s = .int .i64 (opOf a routines) ∧ ∃ z : Int, Hid (z = (if hasS (fldS (opOf a routines)) 110 then (if 33 ≤ opOf a routines ∨ 0 < (b.tdiv 64) % 4 then n % 7 - 1 else n) else 0)) ∧ MacNow gr gr gm w (opOf a routines) d x y z wx)
            case first =>
              cases hh : hasS (fldS (opOf a routines)) 110
              · have Hh := Lib.hid hh
                go_wp2_with fail
                go_meet
                exact ⟨rfl, _, Lib.hid (by rw [Hh.out]; rfl), HN⟩
              · have Hh := Lib.hid hh
                have c0 := HN.2.1.out.cell 4
                have f0 := HN.2.1.out.frozen 4
                by_cases h33 : 33 ≤ opOf a routines
                · have H33 := Lib.hid h33
                  go_wp2_with fail
                  refine (Picked_any n 7 _ (by omega) (by omega) Hn.out).mono ?_
                  rintro e w' ⟨rfl, rfl⟩
                  go_wp2_with fail
                  go_meet
                  exact ⟨rfl, _, Lib.hid (by rw [Hh.out]; simp only [if_true]; rw [if_pos (.inl H33.out)]), (HN.put4 hne hle _).put4 hne hle _⟩
                · have H33 := Lib.hid h33
                  go_wp2_with fail
                  refine (Picked_any (b.tdiv 64) 4 _ (by omega) (by omega) (tdiv_i64 Hb.out (by omega))).mono ?_
                  rintro e w' ⟨rfl, rfl⟩
                  by_cases hp : 0 < (b.tdiv 64) % 4
                  · have Hp := Lib.hid hp
                    go_wp2_with fail
                    refine (Picked_any n 7 _ (by omega) (by omega) Hn.out).mono ?_
                    rintro e w' ⟨rfl, rfl⟩
                    go_wp2_with fail
                    go_meet
                    exact ⟨rfl, _, Lib.hid (by rw [Hh.out]; simp only [if_true]; rw [if_pos (.inr Hp.out)]), (HN.put4 hne hle _).put4 hne hle _⟩
                  · have Hp := Lib.hid hp
                    go_wp2_with fail
                    go_meet
                    exact ⟨rfl, _, Lib.hid (by rw [Hh.out]; simp only [if_true]; rw [if_neg (by have h1 := H33.out; have h2 := Hp.out; omega)]), HN.put4 hne hle _⟩
            case rest =>
              obtain ⟨rfl, z, Hz, HN⟩ := hcut
              go_upto_if 65 with (go_at_call 76; refine (Has_any _ _ _ HZ.out).mono ?_; rintro e w' ⟨rfl, rfl⟩)
              go_cut [11] (fun s wx => s = .int .i64 (opOf a routines) ∧ ∃ z2 : Int, Hid (z2 = (if hasS (fldS (opOf a routines)) 116 then n % many else z)) ∧ MacNow gr gr gm w (opOf a routines) d x y z2 wx)
              case first =>
                cases hh : hasS (fldS (opOf a routines)) 116
                · have Hh := Lib.hid hh
                  go_wp2_with fail
                  go_meet
                  exact ⟨rfl, _, Lib.hid (by rw [Hh.out]; rfl), HN⟩
                · have Hh := Lib.hid hh
                  have c0 := HN.2.1.out.cell 4
                  have f0 := HN.2.1.out.frozen 4
                  go_wp2_with fail
                  refine (Picked_any n many _ (by omega) (by omega) Hn.out).mono ?_
                  rintro e w' ⟨rfl, rfl⟩
                  go_wp2_with fail
                  go_meet
                  exact ⟨rfl, _, Lib.hid (by rw [Hh.out]; rfl), HN.put4 hne hle _⟩
              case rest =>
                obtain ⟨rfl, z2, Hz2, HN⟩ := hcut
                go_upto_if 71 with (go_at_call 76; refine (Has_any _ _ _ HZ.out).mono ?_; rintro e w' ⟨rfl, rfl⟩)
                go_cut [11] (fun s wx => s = .int .i64 (opOf a routines) ∧ ∃ z3 : Int, Hid (z3 = (if hasS (fldS (opOf a routines)) 119 then n % 4 else z2)) ∧ MacNow gr gr gm w (opOf a routines) d x y z3 wx)
                case first =>
                  cases hh : hasS (fldS (opOf a routines)) 119
                  · have Hh := Lib.hid hh
                    go_wp2_with fail
                    go_meet
                    exact ⟨rfl, _, Lib.hid (by rw [Hh.out]; rfl), HN⟩
                  · have Hh := Lib.hid hh
                    have c0 := HN.2.1.out.cell 4
                    have f0 := HN.2.1.out.frozen 4
                    go_wp2_with fail
                    refine (Picked_any n 4 _ (by omega) (by omega) Hn.out).mono ?_
                    rintro e w' ⟨rfl, rfl⟩
                    go_wp2_with fail
                    go_meet
                    exact ⟨rfl, _, Lib.hid (by rw [Hh.out]; rfl), HN.put4 hne hle _⟩
                case rest =>
                  obtain ⟨rfl, z3, Hz3, HN⟩ := hcut
                  go_upto_if 76 with (go_at_call 76; refine (Has_any _ _ _ HZ.out).mono ?_; rintro e w' ⟨rfl, rfl⟩)
                  go_cut [11] (fun s wx => s = .int .i64 (opOf a routines) ∧ ∃ z4 : Int, Hid (z4 = (if hasS (fldS (opOf a routines)) 114 then n % routines else z3)) ∧ MacNow gr gr gm w (opOf a routines) d x y z4 wx)
                  case first =>
                    cases hh : hasS (fldS (opOf a routines)) 114
                    · have Hh := Lib.hid hh
                      go_wp2_with fail
                      go_meet
                      exact ⟨rfl, _, Lib.hid (by rw [Hh.out]; rfl), HN⟩
                    · have Hh := Lib.hid hh
                      have c0 := HN.2.1.out.cell 4
                      have f0 := HN.2.1.out.frozen 4
                      have hr0 : 0 < routines := by
                        have hk : shK (opOf a routines) = 4 := by
                          rcases (fld_cases _ ((isOp_iff _).2 ⟨hop.1, hop.2.1⟩)).2 with ⟨_, _, _, e4, _⟩ | ⟨_, _, _, e4, _⟩ | ⟨_, _, _, e4, _⟩ | ⟨_, _, _, _, e5⟩ | ⟨_, _, _, e4, _⟩
                          · rw [e4] at hh; cases hh
                          · rw [e4] at hh; cases hh
                          · rw [e4] at hh; cases hh
                          · exact e5
                          · rw [e4] at hh; cases hh
                        have h44 := kind_op _ ((isOp_iff _).2 ⟨hop.1, hop.2.1⟩) hk
                        have h0 : routines ≠ 0 := fun h => hop.2.2.2 h h44
                        omega
                      go_wp2_with fail
                      refine (Picked_any n routines _ (by omega) (by omega) Hn.out).mono ?_
                      rintro e w' ⟨rfl, rfl⟩
                      go_wp2_with fail
                      go_meet
                      exact ⟨rfl, _, Lib.hid (by rw [Hh.out]; rfl), HN.put4 hne hle _⟩
                  case rest =>
                    obtain ⟨rfl, z4, Hz4, HN⟩ := hcut
                    have c0 := HN.2.1.out.cell 0
                    have c1 := HN.2.1.out.cell 1
                    have c2 := HN.2.1.out.cell 2
                    have c3 := HN.2.1.out.cell 3
                    have c4 := HN.2.1.out.cell 4
                    have q0 := HN.1.out.cell 0
                    have q1 := HN.1.out.cell 1
                    have q2 := HN.1.out.cell 2
                    have q3 := HN.1.out.cell 3
                    have q4 := HN.1.out.cell 4
                    have f0 := HN.1.out.frozen 0
                    have f1 := HN.1.out.frozen 1
                    have f2 := HN.1.out.frozen 2
                    have f3 := HN.1.out.frozen 3
                    have f4 := HN.1.out.frozen 4
                    clear hq4 hq16 hq64
                    go_wp2_with fail
                    refine end_cell rfl rfl (((((HN.1.out.set_ 0 (.int .i64 (opOf a routines))).set_ 1 (.int .i64 d)).set_ 2 (.int .i64 x)).set_ 3 (.int .i64 y)).set_ 4 (.int .i64 z4)) Tryz.underlying39 rfl (by kernel_rfl) rfl ?_
                    refine ⟨HE.out d x y z4 ?_ ?_ ?_ ?_, by rw [Hgr.out]; exact bset 4 (bset 3 (bset 2 (bset 1 (bset 0 HN.2.2.out _) _) _) _) _⟩
                    · rw [Hd.out]; rfl
                    · rw [Hx.out]; rfl
                    · rw [Hy.out]; rfl
                    · rw [Hz4.out, Hz3.out, Hz2.out, Hz.out]; rfl
end Go.Proofs.YtdldochhondifaaGreatDoor
namespace Go.Proofs.YtdldochhondifaaGreatDoor
open Go.RowKit
attribute [local go_sem ↓] Go.wp_at_zero Go.wp_at_succ

/-- The first k instructions of the code. -/
def codeTo (l : List Int) (M : Nat) (routines : Int) (k : Nat) : List Mac := (List.range k).map fun i => macOf (l.getD (3 * i) 0) (l.getD (3 * i + 1) 0) (l.getD (3 * i + 2) 0) ((M : Nat) + 1) routines
theorem codeTo_succ (l : List Int) (M : Nat) (routines : Int) (k : Nat) : codeTo l M routines (k + 1) = codeTo l M routines k ++ [macOf (l.getD (3 * k) 0) (l.getD (3 * k + 1) 0) (l.getD (3 * k + 2) 0) ((M : Nat) + 1) routines] := by
  unfold codeTo
  rw [List.range_succ, List.map_append]
  rfl
theorem codeTo_len (l : List Int) (M : Nat) (routines : Int) (k : Nat) : (codeTo l M routines k).length = k := by unfold codeTo; simp
theorem codeOf_to (l : List Int) (n : Nat) (routines : Int) : codeOf l n routines = codeTo l (min (l.length / 3) n) routines (min (l.length / 3) n) ++ [⟨45, 0, 0, 0, 0⟩] := rfl
theorem getD_get {l : List Int} {i : Nat} (h : i < l.length) : l[i]? = some (l.getD i 0) := by
  rw [List.getD_eq_getElem?_getD, List.getElem?_eq_getElem h]
  rfl

set_option maxRecDepth 100000 in
set_option maxHeartbeats 4000000 in
theorem CodeOf_any (v : Value) (xs : List Int) (n : Nat) (nz routines : Int) (w : World) (hnz : nz = n) (hv : IntsAt w w.heap.size v xs) (hx : ∀ x ∈ xs, I64 x) (hn : n ≤ 1000) (hr : 0 ≤ routines) (hr2 : routines ≤ 1000) :
    Calls Tryz.prog 13 #[v, .int .i64 nz, .int .i64 routines] w fun e w' => ∃ v', e = .returned v' ∧ OwnMacs w' w.heap.size v' (codeOf xs n routines) ∧ Below w.heap.size w w' := by
  subst hnz
  obtain ⟨i0, hi, hz0, hz1, hz2⟩ := info_parts infoMac
  have HX := Lib.hid hx
  obtain ⟨A, c, rfl, hl, hc63, hcell⟩ := hv
  have HC := Lib.hid hcell
  have HPE : Hid (∀ v' (w' : World), OwnMacs w' w.heap.size v' (codeOf xs n routines) → Below w.heap.size w w' → ∃ v'', Ending.returned v' = .returned v'' ∧ OwnMacs w' w.heap.size v'' (codeOf xs n routines) ∧ Below w.heap.size w w') :=
    Lib.hid fun v w' h1 h2 => ⟨v, rfl, h1, h2⟩
  obtain ⟨M, hM⟩ : ∃ M, min (xs.length / 3) n = M := ⟨_, rfl⟩
  have HM := Lib.hid hM
  have hM1 : M ≤ n := by omega
  have hM2 : 3 * M ≤ xs.length := by omega
  have HCase : Hid ((n < xs.length / 3 ∧ M = n) ∨ (¬ n < xs.length / 3 ∧ M = xs.length / 3)) := Lib.hid (by omega)
  clear hx hcell hM
  obtain ⟨len, hlen⟩ : ∃ len, xs.length = len := ⟨_, rfl⟩
  have HL := Lib.hid hlen
  rw [hlen] at hl HC HCase hM2 ⊢
  clear hlen
  go_enter Tryz.func13, Tryz.ntmps13
  go_upto_if 15 with fail
  go_cut [7] (fun s wx => s = .int .i64 (M : Int) ∧ wx = w)
  case first =>
    rcases HCase.out with ⟨hlt3, hMe⟩ | ⟨hlt3, hMe⟩
    all_goals
      have HMe := Lib.hid hMe
      clear hMe
      go_wp2_with fail
      go_meet
      refine ⟨?_, rfl⟩
      rw [HMe.out]
      try (first | rfl | (congr 1; omega))
  case rest =>
    obtain ⟨rfl, rfl⟩ := hcut
    go_wp2_with fail
    go_loopw [8, 9] (fun v i wr => ∃ k : Nat, k ≤ M ∧ i = .int .i64 k ∧ Hid (Below wc.heap.size wc wr) ∧ Hid (OwnMacs wr wc.heap.size v (codeTo xs M routines k))) (fun _ i _ => M - (intOf i).toNat)
    case atStart => exact ⟨0, Nat.zero_le _, rfl, Lib.hid (Below.refl _ _), Lib.hid (OwnMacs.nil _ _)⟩
    case round =>
      obtain ⟨k, hk, rfl, HB, HO⟩ := hrel
      by_cases hlt : k < M
      · obtain ⟨b, off, hA, hbw, hcc⟩ := HC.out (by omega)
        subst hA
        have cell : ∀ j, j < len → wr.cell? ⟨b, off + j, none⟩ = some (.int .i64 (xs.getD j 0)) ∧ I64 (xs.getD j 0) := fun j hj =>
          ⟨(bcell HB.out hbw).trans (hcc j _ (getD_get (by rw [HL.out]; exact hj))), HX.out _ (List.mem_of_getElem? (getD_get (l := xs) (i := j) (by rw [HL.out]; exact hj)))⟩
        obtain ⟨x0, hx0⟩ : ∃ x, xs.getD (3 * k) 0 = x := ⟨_, rfl⟩
        obtain ⟨x1, hx1⟩ : ∃ x, xs.getD (3 * k + 1) 0 = x := ⟨_, rfl⟩
        obtain ⟨x2, hx2⟩ : ∃ x, xs.getD (3 * k + 2) 0 = x := ⟨_, rfl⟩
        have d0 := cell (3 * k) (by omega)
        have d1 := cell (3 * k + 1) (by omega)
        have d2 := cell (3 * k + 2) (by omega)
        rw [hx0] at d0
        rw [hx1] at d1
        rw [hx2] at d2
        have Hxs := Lib.hid (And.intro hx0 (And.intro hx1 hx2))
        obtain ⟨d0, i0'⟩ := d0
        obtain ⟨d1, i1'⟩ := d1
        obtain ⟨d2, i2'⟩ := d2
        have HI := Lib.hid (And.intro i0' (And.intro i1' i2'))
        have hcl : (codeTo xs M routines k).length ≤ 1000 := by rw [codeTo_len]; omega
        obtain ⟨⟨op, dst, a, b', nn⟩, hmac⟩ : ∃ m, macOf x0 x1 x2 ((M : Nat) + 1) routines = m := ⟨_, rfl⟩
        have HMac : Hid (∀ W : World, Calls Tryz.prog 32 #[.int .i64 x0, .int .i64 x1, .int .i64 x2, .int .i64 ((M : Int) + 1), .int .i64 routines] W fun e w' => e = .returned (.agg #[.int .i64 op, .int .i64 dst, .int .i64 a, .int .i64 b', .int .i64 nn]) ∧ Below W.heap.size W w') := Lib.hid fun W => by
          have := MacOf_any x0 x1 x2 ((M : Int) + 1) routines W i0' i1' i2' (by omega) (by omega) hr (by omega)
          rw [hmac] at this
          exact this
        have Hmac := Lib.hid hmac
        have hz := HB.out.size
        have hw1 : IntKind.i64.wrap (3 * (k : Int)) = 3 * (k : Int) := by rw [IntKind.wrap_i64]; omega
        have hw2 : IntKind.i64.wrap (3 * (k : Int) + 1) = 3 * (k : Int) + 1 := by rw [IntKind.wrap_i64]; omega
        have hw3 : IntKind.i64.wrap (3 * (k : Int) + 2) = 3 * (k : Int) + 2 := by rw [IntKind.wrap_i64]; omega
        have hw4 : IntKind.i64.wrap ((M : Int) + 1) = (M : Int) + 1 := by rw [IntKind.wrap_i64]; omega
        have ht1 : (3 * (k : Int)).toNat = 3 * k := by omega
        have ht2 : (3 * (k : Int) + 1).toNat = 3 * k + 1 := by omega
        have ht3 : (3 * (k : Int) + 2).toNat = 3 * k + 2 := by omega
        have hi1 : (0 : Int) ≤ 3 * (k : Int) := by omega
        have hi2 : 3 * (k : Int) < (len : Int) := by omega
        have hi3 : (0 : Int) ≤ 3 * (k : Int) + 1 := by omega
        have hi4 : 3 * (k : Int) + 1 < (len : Int) := by omega
        have hi5 : (0 : Int) ≤ 3 * (k : Int) + 2 := by omega
        have hi6 : 3 * (k : Int) + 2 < (len : Int) := by omega
        clear cell hcc hx0 hx1 hx2 i0' i1' i2' hmac
        go_upto_region 8 with fail
        go_region_held3 (fun w' => w'.cell? ⟨b, off + 3 * k, none⟩ = some (.int .i64 x0) ∧ w'.cell? ⟨b, off + (3 * k + 1), none⟩ = some (.int .i64 x1) ∧ w'.cell? ⟨b, off + (3 * k + 2), none⟩ = some (.int .i64 x2)) (first | go_keep | (go_split_ands; refine ⟨?_, ?_, ?_⟩ <;> assumption))
          (first
            | (go_at_call 32; refine (HMac.out _).mono ?_; rintro e w3 ⟨rfl, hb3⟩; have HO3 := Lib.hid (OwnMacs.below (w := wr.drew) HO.out hb3 rfl); have HB3 := Lib.hid ((below_drew HB.out).trans (hb3.mono hz)); have hz3 : wc.heap.size ≤ w3.heap.size := HB3.out.size; have d0 := (bcell hb3 (show b < wr.heap.size by omega)).trans d0; have d1 := (bcell hb3 (show b < wr.heap.size by omega)).trans d1; have d2 := (bcell hb3 (show b < wr.heap.size by omega)).trans d2; clear hb3)
            | (refine step_append_lies _ (by rfl) (.tmp 22) (.tmp 44) 22 (by rfl) wc.heap.size 39 i0 _ 5 40 Tryz.underlying22 hi hz0 hz1 hz2 rfl (by decide) u8 (codeTo xs M routines k).length (cellsS (codeTo xs M routines k)) (by rfl) (World.ownsRow.alloc HO3.out _) ⟨w3.heap.size, 0, none⟩ 1 1 [.int .i64 op, .int .i64 dst, .int .i64 a, .int .i64 b', .int .i64 nn] (by rfl) (by rfl) (cells_new w3 [.int .i64 op, .int .i64 dst, .int .i64 a, .int .i64 b', .int .i64 nn] 39 w3.heap.size rfl) (cells_one ⟨op, dst, a, b', nn⟩) (by omega) (by unfold maxLen; omega) (by omega) (by simp; omega) (w3.heap.size + 1) (by simp) ?_; intro g4 cap4 w4 hown4 hgrow4 hat4 hlt4; have HO4 := Lib.hid hown4; have HB4 : Hid (Below wc.heap.size wc w4) := Lib.hid ((HB3.out.alloc hz3 _).grown hgrow4 (by simp; omega) (own_block_ge HO3.out)); have hb4 : Below wc.heap.size w3 w4 := ((Below.refl _ w3).alloc hz3 _).grown hgrow4 (by simp; omega) (own_block_ge HO3.out); have d0 := (bcell hb4 hbw).trans d0; have d1 := (bcell hb4 hbw).trans d1; have d2 := (bcell hb4 hbw).trans d2; clear hb4 hown4 hat4))
        all_goals
          go_wp2_with fail
          go_roundw
          case rel =>
            refine ⟨k + 1, by omega, by go_num, HB4, Lib.hid ?_⟩
            rw [codeTo_succ, Hxs.out.1, Hxs.out.2.1, Hxs.out.2.2, Hmac.out]
            exact OwnMacs.snoc (m := ⟨op, dst, a, b', nn⟩) HO4.out
          case measure => simp [intOf]; omega
      · obtain rfl : k = M := by omega
        go_wp2_with (at_builtin; refine app_one rfl _ _ 22 39 rfl (.agg #[.int .i64 0, .int .i64 0, .int .i64 0, .int .i64 0, .int .i64 0]) 5 40 Tryz.underlying22 infoMac rfl (by decide) (by decide) wc.heap.size u8 _ _ (by rfl) HO.out _ [.int .i64 45, .int .i64 0, .int .i64 0, .int .i64 0, .int .i64 0] (by rfl) rfl (fun x hx => by simp at hx; rcases hx with rfl | rfl <;> rfl) rfl (by rw [codeTo_len]; omega) HB.out.size ?_; intro v4 w4 HA4)
        go_ret
        refine HPE.out _ _ ?_ (HB.out.trans HA4.out.below)
        rw [codeOf_to, HM.out]
        exact OwnMacs.snoc (m := ⟨45, 0, 0, 0, 0⟩) HA4.out.own
end Go.Proofs.YtdldochhondifaaGreatDoor
