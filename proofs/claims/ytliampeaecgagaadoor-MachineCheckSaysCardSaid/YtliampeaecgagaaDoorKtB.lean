/-
  Contract of turnerykit's MacOf: an instruction of raw numbers.
  Conditions: numbers of Go's int.
-/
import Derived.Test.YtliampeaecgagaaDoorKtA
import Derived.Test.YtliampeaecgagaaDoorKitD
import Derived.Deep.DeepCutAuto
namespace Go.Proofs.YtliampeaecgagaaDoor
open Go.RowKit

/-- The instruction under way: block g holds it; nothing below B has changed. -/
def MacNow (B gr g : Nat) (w : World) (op d a b n : Int) (wx : World) : Prop := Hid (Blk wx gr 36 #[.int .i64 0, .int .i64 0, .int .i64 0, .int .i64 0, .int .i64 0]) ∧ Hid (Blk wx g 36 #[.int .i64 op, .int .i64 d, .int .i64 a, .int .i64 b, .int .i64 n]) ∧ Hid (Below B w wx)
theorem MacNow.put1 {B gr g : Nat} {w wx : World} {op d a b n : Int} (h : MacNow B gr g w op d a b n wx) (hne : gr ≠ g) (hB : B ≤ g) (x : Int) : MacNow B gr g w op x a b n (wx.setCell ⟨g, 1, none⟩ (.int .i64 x)) :=
  ⟨Lib.hid (h.1.out.far (p := ⟨g, 1, none⟩) hne _), Lib.hid (h.2.1.out.set_ 1 _), Lib.hid (h.2.2.out.setCell hB _)⟩
theorem MacNow.put2 {B gr g : Nat} {w wx : World} {op d a b n : Int} (h : MacNow B gr g w op d a b n wx) (hne : gr ≠ g) (hB : B ≤ g) (x : Int) : MacNow B gr g w op d x b n (wx.setCell ⟨g, 2, none⟩ (.int .i64 x)) :=
  ⟨Lib.hid (h.1.out.far (p := ⟨g, 2, none⟩) hne _), Lib.hid (h.2.1.out.set_ 2 _), Lib.hid (h.2.2.out.setCell hB _)⟩
theorem MacNow.put3 {B gr g : Nat} {w wx : World} {op d a b n : Int} (h : MacNow B gr g w op d a b n wx) (hne : gr ≠ g) (hB : B ≤ g) (x : Int) : MacNow B gr g w op d a x n (wx.setCell ⟨g, 3, none⟩ (.int .i64 x)) :=
  ⟨Lib.hid (h.1.out.far (p := ⟨g, 3, none⟩) hne _), Lib.hid (h.2.1.out.set_ 3 _), Lib.hid (h.2.2.out.setCell hB _)⟩
theorem MacNow.put4 {B gr g : Nat} {w wx : World} {op d a b n : Int} (h : MacNow B gr g w op d a b n wx) (hne : gr ≠ g) (hB : B ≤ g) (x : Int) : MacNow B gr g w op d a b x (wx.setCell ⟨g, 4, none⟩ (.int .i64 x)) :=
  ⟨Lib.hid (h.1.out.far (p := ⟨g, 4, none⟩) hne _), Lib.hid (h.2.1.out.set_ 4 _), Lib.hid (h.2.2.out.setCell hB _)⟩
theorem bset {g : Nat} {a w : World} (o : Nat) (h : Below g a w) (u : Value) : Below g a (w.setCell ⟨g, o, none⟩ u) := h.setCell (p := ⟨g, o, none⟩) (Nat.le_refl _) u
def isRet (a routines : Int) : Bool := decide (1 + a % 47 = 45 ∨ (1 + a % 47 = 44 ∧ routines = 0))
theorem opOf_ret (a routines : Int) : opOf a routines = if isRet a routines then 47 else 1 + a % 47 := by unfold opOf isRet; simp
theorem tdiv_i64 {b c : Int} (h : I64 b) (hc : 1 ≤ c) : I64 (b.tdiv c) := by
  unfold I64 at *
  rcases Int.le_total 0 b with h0 | h0
  · rw [Int.tdiv_eq_ediv_of_nonneg h0]
    have h1 : b / c ≤ b := Int.ediv_le_self c h0
    have h2 : 0 ≤ b / c := Int.ediv_nonneg h0 (by omega)
    omega
  · have e : b.tdiv c = -((-b).tdiv c) := by rw [Int.neg_tdiv, Int.neg_neg]
    rw [e, Int.tdiv_eq_ediv_of_nonneg (show 0 ≤ -b by omega)]
    have h1 : -b / c ≤ -b := Int.ediv_le_self c (by omega)
    have h2 : 0 ≤ -b / c := Int.ediv_nonneg (by omega) (by omega)
    omega

set_option maxRecDepth 100000 in
set_option maxHeartbeats 4000000 in
theorem MacOf_any (a b n many routines : Int) (w : World) (ha : I64 a) (hb : I64 b) (hn : I64 n) (hm : 0 < many) (hm2 : many ≤ 9223372036854775807) (hr : 0 ≤ routines) (hr2 : routines ≤ 9223372036854775807) :
    Calls Tryd.prog 38 #[.int .i64 a, .int .i64 b, .int .i64 n, .int .i64 many, .int .i64 routines] w fun e w' => e = .returned (.agg (macOf a b n many routines).cells.toArray) ∧ Below w.heap.size w w' := by
  have Ha := Lib.hid ha
  have Hb := Lib.hid hb
  have Hn := Lib.hid hn
  have hop := opOf_in a routines
  have hq4 := IntWalk.wrap64_in (b.tdiv 4) (by have := tdiv_i64 hb (show (1 : Int) ≤ 4 by omega); exact this)
  have hq16 := IntWalk.wrap64_in (b.tdiv 16) (by have := tdiv_i64 hb (show (1 : Int) ≤ 16 by omega); exact this)
  have hq64 := IntWalk.wrap64_in (b.tdiv 64) (by have := tdiv_i64 hb (show (1 : Int) ≤ 64 by omega); exact this)
  have HZ := Lib.hid (fld_ok (opOf a routines))
  have hp0 : 0 ≤ a % 47 := by omega
  have hp1 : a % 47 < 47 := by omega
  have HE : Hid (∀ (d x y z : Int), d = (macOf a b n many routines).dst → x = (macOf a b n many routines).a → y = (macOf a b n many routines).b → z = (macOf a b n many routines).n →
      Ending.returned (.agg #[.int .i64 (opOf a routines), .int .i64 d, .int .i64 x, .int .i64 y, .int .i64 z]) = .returned (.agg (macOf a b n many routines).cells.toArray)) :=
    Lib.hid fun d x y z h1 h2 h3 h4 => by subst h1; subst h2; subst h3; subst h4; rfl
  clear ha hb hn
  go_enter Tryd.func38, Tryd.ntmps38
  go_wp2_with fail
  refine (Picked_any a 47 _ (by omega) (by omega) Ha.out).mono ?_
  rintro e w' ⟨rfl, rfl⟩
  go_upto_region 2 with fail
  go_cut [26] (fun s wx => s = .bool (isRet a routines) ∧ wx = w.alloc (.cells #[.int .i64 0, .int .i64 0, .int .i64 0, .int .i64 0, .int .i64 0] 36))
  case first =>
    by_cases h45 : 1 + a % 47 = 45
    · have e1 : (1 + a % 47 == 45) = true := by simp [h45]
      have HR : Hid (isRet a routines = true) := Lib.hid (by unfold isRet; simp [h45])
      clear h45
      go_wp2_with fail
      go_meet
      exact ⟨by rw [HR.out], rfl⟩
    · have e1 : (1 + a % 47 == 45) = false := by simp [h45]
      by_cases h44 : 1 + a % 47 = 44
      · have e2 : (1 + a % 47 == 44) = true := by simp [h44]
        by_cases hr0 : routines = 0
        · have e3 : (routines == 0) = true := by simp [hr0]
          have HR : Hid (isRet a routines = true) := Lib.hid (by unfold isRet; simp [h44, hr0])
          clear h45 h44 hr0
          go_wp2_with fail
          go_meet
          exact ⟨by rw [HR.out], rfl⟩
        · have e3 : (routines == 0) = false := by simp [hr0]
          have HR : Hid (isRet a routines = false) := Lib.hid (by unfold isRet; simp [h44, hr0])
          clear h45 h44 hr0
          go_wp2_with fail
          go_meet
          exact ⟨by rw [HR.out], rfl⟩
      · have e2 : (1 + a % 47 == 44) = false := by simp [h44]
        have HR : Hid (isRet a routines = false) := Lib.hid (by unfold isRet; simp [h44, h45])
        clear h45 h44
        go_wp2_with fail
        go_meet
        exact ⟨by rw [HR.out], rfl⟩
  case rest =>
    obtain ⟨rfl, rfl⟩ := hcut
    have HOp := Lib.hid (opOf_ret a routines)
    go_upto_if 26 with fail
    go_cut [11] (fun s wx => s = .int .i64 (opOf a routines) ∧ wx = w.alloc (.cells #[.int .i64 0, .int .i64 0, .int .i64 0, .int .i64 0, .int .i64 0] 36))
    case first =>
      cases hR : isRet a routines
      all_goals
        rw [hR] at HOp
        clear hR
        go_wp2_with fail
        go_meet
        exact ⟨by rw [HOp.out]; rfl, rfl⟩
    case rest =>
      obtain ⟨rfl, rfl⟩ := hcut
      go_wp2_with fail
      refine (Fields_any _ _).mono ?_
      rintro e w1 ⟨rfl, hb1⟩
      have hz : w.heap.size < w1.heap.size := by have := hb1.size; simp at this; omega
      have HN : MacNow w.heap.size w.heap.size w1.heap.size w (opOf a routines) 0 0 0 0 (w1.alloc (.cells #[.int .i64 (opOf a routines), .int .i64 0, .int .i64 0, .int .i64 0, .int .i64 0] 36)) :=
        ⟨Lib.hid (((Blk.new w 36 #[.int .i64 0, .int .i64 0, .int .i64 0, .int .i64 0, .int .i64 0]).below hb1 (by simp)).alloc _), Lib.hid (Blk.new _ _ _), Lib.hid ((((Below.refl _ _).alloc (Nat.le_refl _) _).trans (hb1.mono (by simp))).alloc (by omega) _)⟩
      clear hb1
      go_upto_if 32 with (go_at_call 59; refine (Has_any _ _ _ HZ.out).mono ?_; rintro e w' ⟨rfl, rfl⟩)
      generalize w1.alloc (.cells #[.int .i64 (opOf a routines), .int .i64 0, .int .i64 0, .int .i64 0, .int .i64 0] 36) = W at *
      generalize hgm : w1.heap.size = gm at *
      generalize hgr : w.heap.size = gr at *
      have Hgr := Lib.hid hgr
      clear hgm hgr HOp
      have hne : gr ≠ gm := by omega
      have hle : gr ≤ gm := by omega
      clear hz
      go_cut [11] (fun s wx => s = .int .i64 (opOf a routines) ∧ ∃ d : Int, Hid (d = (if hasS (fldS (opOf a routines)) 100 then b % 4 else 0)) ∧ MacNow gr gr gm w (opOf a routines) d 0 0 0 wx)
      case first =>
        cases hh : hasS (fldS (opOf a routines)) 100
        · have Hh := Lib.hid hh
          go_wp2_with fail
          go_meet
          exact ⟨rfl, _, Lib.hid (by rw [Hh.out]; rfl), HN⟩
        · have Hh := Lib.hid hh
          have c0 := HN.2.1.out.cell 1
          have f0 := HN.2.1.out.frozen 1
          go_wp2_with fail
          refine (Picked_any b 4 _ (by omega) (by omega) Hb.out).mono ?_
          rintro e w' ⟨rfl, rfl⟩
          go_wp2_with fail
          go_meet
          exact ⟨rfl, _, Lib.hid (by rw [Hh.out]; rfl), HN.put1 hne hle _⟩
      case rest =>
        obtain ⟨rfl, d, Hd, HN⟩ := hcut
        go_upto_if 37 with (go_at_call 59; refine (Has_any _ _ _ HZ.out).mono ?_; rintro e w' ⟨rfl, rfl⟩)
        go_cut [11] (fun s wx => s = .int .i64 (opOf a routines) ∧ ∃ x : Int, Hid (x = (if hasS (fldS (opOf a routines)) 97 then (b.tdiv 4) % 4 else 0)) ∧ MacNow gr gr gm w (opOf a routines) d x 0 0 wx)
        case first =>
          cases hh : hasS (fldS (opOf a routines)) 97
          · have Hh := Lib.hid hh
            go_wp2_with fail
            go_meet
            exact ⟨rfl, _, Lib.hid (by rw [Hh.out]; rfl), HN⟩
          · have Hh := Lib.hid hh
            have c0 := HN.2.1.out.cell 2
            have f0 := HN.2.1.out.frozen 2
            go_wp2_with fail
            refine (Picked_any (b.tdiv 4) 4 _ (by omega) (by omega) (tdiv_i64 Hb.out (by omega))).mono ?_
            rintro e w' ⟨rfl, rfl⟩
            go_wp2_with fail
            go_meet
            exact ⟨rfl, _, Lib.hid (by rw [Hh.out]; rfl), HN.put2 hne hle _⟩
        case rest =>
          obtain ⟨rfl, x, Hx, HN⟩ := hcut
          go_upto_if 43 with (go_at_call 59; refine (Has_any _ _ _ HZ.out).mono ?_; rintro e w' ⟨rfl, rfl⟩)
          go_cut [11] (fun s wx => s = .int .i64 (opOf a routines) ∧ ∃ y : Int, Hid (y = (if hasS (fldS (opOf a routines)) 98 then (b.tdiv 16) % 4 else 0)) ∧ MacNow gr gr gm w (opOf a routines) d x y 0 wx)
          case first =>
            cases hh : hasS (fldS (opOf a routines)) 98
            · have Hh := Lib.hid hh
              go_wp2_with fail
              go_meet
              exact ⟨rfl, _, Lib.hid (by rw [Hh.out]; rfl), HN⟩
            · have Hh := Lib.hid hh
              have c0 := HN.2.1.out.cell 3
              have f0 := HN.2.1.out.frozen 3
              go_wp2_with fail
              refine (Picked_any (b.tdiv 16) 4 _ (by omega) (by omega) (tdiv_i64 Hb.out (by omega))).mono ?_
              rintro e w' ⟨rfl, rfl⟩
              go_wp2_with fail
              go_meet
              exact ⟨rfl, _, Lib.hid (by rw [Hh.out]; rfl), HN.put3 hne hle _⟩
          case rest =>
            obtain ⟨rfl, y, Hy, HN⟩ := hcut
            go_upto_if 49 with (go_at_call 59; refine (Has_any _ _ _ HZ.out).mono ?_; rintro e w' ⟨rfl, rfl⟩)
            go_cut [11] (fun s wx => s = .int .i64 (opOf a routines) ∧ ∃ z : Int, Hid (z = (if hasS (fldS (opOf a routines)) 110 then (if 33 ≤ opOf a routines ∨ 0 < (b.tdiv 64) % 4 then n % 7 - 1 else n) else 0)) ∧ MacNow gr gr gm w (opOf a routines) d x y z wx)
            case first =>
              cases hh : hasS (fldS (opOf a routines)) 110
              · have Hh := Lib.hid hh
                go_wp2_with fail
                go_meet
                exact ⟨rfl, _, Lib.hid (by rw [Hh.out]; rfl), HN⟩
              · have Hh := Lib.hid hh
                have c0 := HN.2.1.out.cell 4
                have f0 := HN.2.1.out.frozen 4
                by_cases h33 : 33 ≤ opOf a routines
                · have H33 := Lib.hid h33
                  go_wp2_with fail
                  refine (Picked_any n 7 _ (by omega) (by omega) Hn.out).mono ?_
                  rintro e w' ⟨rfl, rfl⟩
                  go_wp2_with fail
                  go_meet
                  exact ⟨rfl, _, Lib.hid (by rw [Hh.out]; simp only [if_true]; rw [if_pos (.inl H33.out)]), (HN.put4 hne hle _).put4 hne hle _⟩
                · have H33 := Lib.hid h33
                  go_wp2_with fail
                  refine (Picked_any (b.tdiv 64) 4 _ (by omega) (by omega) (tdiv_i64 Hb.out (by omega))).mono ?_
                  rintro e w' ⟨rfl, rfl⟩
                  by_cases hp : 0 < (b.tdiv 64) % 4
                  · have Hp := Lib.hid hp
                    go_wp2_with fail
                    refine (Picked_any n 7 _ (by omega) (by omega) Hn.out).mono ?_
                    rintro e w' ⟨rfl, rfl⟩
                    go_wp2_with fail
                    go_meet
                    exact ⟨rfl, _, Lib.hid (by rw [Hh.out]; simp only [if_true]; rw [if_pos (.inr Hp.out)]), (HN.put4 hne hle _).put4 hne hle _⟩
                  · have Hp := Lib.hid hp
                    go_wp2_with fail
                    go_meet
                    exact ⟨rfl, _, Lib.hid (by rw [Hh.out]; simp only [if_true]; rw [if_neg (by have h1 := H33.out; have h2 := Hp.out; omega)]), HN.put4 hne hle _⟩
            case rest =>
              obtain ⟨rfl, z, Hz, HN⟩ := hcut
              go_upto_if 65 with (go_at_call 59; refine (Has_any _ _ _ HZ.out).mono ?_; rintro e w' ⟨rfl, rfl⟩)
              go_cut [11] (fun s wx => s = .int .i64 (opOf a routines) ∧ ∃ z2 : Int, Hid (z2 = (if hasS (fldS (opOf a routines)) 116 then n % many else z)) ∧ MacNow gr gr gm w (opOf a routines) d x y z2 wx)
              case first =>
                cases hh : hasS (fldS (opOf a routines)) 116
                · have Hh := Lib.hid hh
                  go_wp2_with fail
                  go_meet
                  exact ⟨rfl, _, Lib.hid (by rw [Hh.out]; rfl), HN⟩
                · have Hh := Lib.hid hh
                  have c0 := HN.2.1.out.cell 4
                  have f0 := HN.2.1.out.frozen 4
                  go_wp2_with fail
                  refine (Picked_any n many _ (by omega) (by omega) Hn.out).mono ?_
                  rintro e w' ⟨rfl, rfl⟩
                  go_wp2_with fail
                  go_meet
                  exact ⟨rfl, _, Lib.hid (by rw [Hh.out]; rfl), HN.put4 hne hle _⟩
              case rest =>
                obtain ⟨rfl, z2, Hz2, HN⟩ := hcut
                go_upto_if 71 with (go_at_call 59; refine (Has_any _ _ _ HZ.out).mono ?_; rintro e w' ⟨rfl, rfl⟩)
                go_cut [11] (fun s wx => s = .int .i64 (opOf a routines) ∧ ∃ z3 : Int, Hid (z3 = (if hasS (fldS (opOf a routines)) 119 then n % 4 else z2)) ∧ MacNow gr gr gm w (opOf a routines) d x y z3 wx)
                case first =>
                  cases hh : hasS (fldS (opOf a routines)) 119
                  · have Hh := Lib.hid hh
                    go_wp2_with fail
                    go_meet
                    exact ⟨rfl, _, Lib.hid (by rw [Hh.out]; rfl), HN⟩
                  · have Hh := Lib.hid hh
                    have c0 := HN.2.1.out.cell 4
                    have f0 := HN.2.1.out.frozen 4
                    go_wp2_with fail
                    refine (Picked_any n 4 _ (by omega) (by omega) Hn.out).mono ?_
                    rintro e w' ⟨rfl, rfl⟩
                    go_wp2_with fail
                    go_meet
                    exact ⟨rfl, _, Lib.hid (by rw [Hh.out]; rfl), HN.put4 hne hle _⟩
                case rest =>
                  obtain ⟨rfl, z3, Hz3, HN⟩ := hcut
                  go_upto_if 76 with (go_at_call 59; refine (Has_any _ _ _ HZ.out).mono ?_; rintro e w' ⟨rfl, rfl⟩)
                  go_cut [11] (fun s wx => s = .int .i64 (opOf a routines) ∧ ∃ z4 : Int, Hid (z4 = (if hasS (fldS (opOf a routines)) 114 then n % routines else z3)) ∧ MacNow gr gr gm w (opOf a routines) d x y z4 wx)
                  case first =>
                    cases hh : hasS (fldS (opOf a routines)) 114
                    · have Hh := Lib.hid hh
                      go_wp2_with fail
                      go_meet
                      exact ⟨rfl, _, Lib.hid (by rw [Hh.out]; rfl), HN⟩
                    · have Hh := Lib.hid hh
                      have c0 := HN.2.1.out.cell 4
                      have f0 := HN.2.1.out.frozen 4
                      have hr0 : 0 < routines := by
                        have hk : shK (opOf a routines) = 4 := by
                          rcases (fld_cases _ ((isOp_iff _).2 ⟨hop.1, hop.2.1⟩)).2 with ⟨_, _, _, e4, _⟩ | ⟨_, _, _, e4, _⟩ | ⟨_, _, _, e4, _⟩ | ⟨_, _, _, _, e5⟩ | ⟨_, _, _, e4, _⟩
                          · rw [e4] at hh; cases hh
                          · rw [e4] at hh; cases hh
                          · rw [e4] at hh; cases hh
                          · exact e5
                          · rw [e4] at hh; cases hh
                        have h44 := kind_op _ ((isOp_iff _).2 ⟨hop.1, hop.2.1⟩) hk
                        have h0 : routines ≠ 0 := fun h => hop.2.2.2 h h44
                        omega
                      go_wp2_with fail
                      refine (Picked_any n routines _ (by omega) (by omega) Hn.out).mono ?_
                      rintro e w' ⟨rfl, rfl⟩
                      go_wp2_with fail
                      go_meet
                      exact ⟨rfl, _, Lib.hid (by rw [Hh.out]; rfl), HN.put4 hne hle _⟩
                  case rest =>
                    obtain ⟨rfl, z4, Hz4, HN⟩ := hcut
                    have c0 := HN.2.1.out.cell 0
                    have c1 := HN.2.1.out.cell 1
                    have c2 := HN.2.1.out.cell 2
                    have c3 := HN.2.1.out.cell 3
                    have c4 := HN.2.1.out.cell 4
                    have q0 := HN.1.out.cell 0
                    have q1 := HN.1.out.cell 1
                    have q2 := HN.1.out.cell 2
                    have q3 := HN.1.out.cell 3
                    have q4 := HN.1.out.cell 4
                    have f0 := HN.1.out.frozen 0
                    have f1 := HN.1.out.frozen 1
                    have f2 := HN.1.out.frozen 2
                    have f3 := HN.1.out.frozen 3
                    have f4 := HN.1.out.frozen 4
                    clear hq4 hq16 hq64
                    go_wp2_with fail
                    refine end_cell rfl rfl (((((HN.1.out.set_ 0 (.int .i64 (opOf a routines))).set_ 1 (.int .i64 d)).set_ 2 (.int .i64 x)).set_ 3 (.int .i64 y)).set_ 4 (.int .i64 z4)) Tryd.underlying36 rfl (by kernel_rfl) rfl ?_
                    refine ⟨HE.out d x y z4 ?_ ?_ ?_ ?_, by rw [Hgr.out]; exact bset 4 (bset 3 (bset 2 (bset 1 (bset 0 HN.2.2.out _) _) _) _) _⟩
                    · rw [Hd.out]; rfl
                    · rw [Hx.out]; rfl
                    · rw [Hy.out]; rfl
                    · rw [Hz4.out, Hz3.out, Hz2.out, Hz.out]; rfl
end Go.Proofs.YtliampeaecgagaaDoor
