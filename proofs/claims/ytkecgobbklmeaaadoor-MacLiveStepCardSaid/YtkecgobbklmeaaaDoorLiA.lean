/-
  Contracts of the reference's Goes and LiveOne: where a register is live.
  Conditions: the slice reads as instructions that may stand.
-/
import Derived.Test.YtkecgobbklmeaaaDoorLiP
import Derived.Test.YtkecgobbklmeaaaDoorKtP
import Derived.Deep.OwnRows
import Derived.Deep.LoopGhost
import Derived.Deep.DeepCutAuto
namespace Go.Proofs.YtkecgobbklmeaaaDoor
open Go.RowKit

theorem infoBool : (Tryd.prog.info? 4).map (fun i => (i.zero, i.size, i.bytes)) = some (some (.bool false), 1, 1) := by kernel_rfl
/-- A block is a row of n cells; what a walk needs of it. -/
theorem row_below {w w' : World} {g B : Nat} {t : TypeId} {n : Nat} {f : Nat → Value} (h : w.rowIs g t n f) (hb : Below B w w') (hg : g < B) : w'.rowIs g t n f := h.of_block (hb.block g hg)

theorem target_in {m : Mac} {many : Int} (h : faultS m many = 0) (ht : hasS (fldS m.op) 116 = true) : 0 ≤ m.n ∧ m.n < many := by
  obtain ⟨ho, _, _, _, _, hn⟩ := (fault_zero m many).1 h
  rcases (fld_cases _ ho).2 with ⟨_, e2, _⟩ | ⟨_, _, _, _, e5⟩ | ⟨_, e2, _⟩ | ⟨_, e2, _⟩ | ⟨_, e2, _⟩
  · rw [e2] at ht; cases ht
  · rw [e5] at hn
    unfold numberS at hn
    rw [if_neg (by omega), if_neg (by omega), if_neg (by omega), if_neg (by omega)] at hn
    split at hn
    · cases hn
    · omega
  · rw [e2] at ht; cases ht
  · rw [e2] at ht; cases ht
  · rw [e2] at ht; cases ht
theorem ret_target : hasS (fldS 45) 116 = false := by decide +kernel
/-- What the code asks of an instruction's successors. -/
theorem step_code {ms : List Mac} {r : Nat} {X : Nat → Bool} {j : Nat} {m : Mac} (hm : ms[j]? = some m) (hf : faultS m (ms.length : Int) = 0) :
    stepB ms r X j = (rdS m r || (!wrS m r && ((decide (j + 1 < ms.length) && X (j + 1) && goB m j (j + 1)) || (hasS (fldS m.op) 116 && X m.n.toNat)))) := by
  unfold stepB
  rw [hm]
  simp only
  congr 1
  congr 1
  rw [Bool.eq_iff_iff, List.any_eq_true]
  simp only [List.mem_range, Bool.and_eq_true, Bool.or_eq_true, decide_eq_true_eq]
  constructor
  · rintro ⟨k, hk, hg, hx⟩
    unfold goB at hg
    simp only [Bool.and_eq_true, Bool.or_eq_true, decide_eq_true_eq] at hg
    obtain ⟨h45, ⟨h1, h2⟩ | ⟨h1, h2⟩⟩ := hg
    · right
      exact ⟨h1, by rw [h2]; simpa using hx⟩
    · left
      subst h2
      refine ⟨⟨hk, hx⟩, ?_⟩
      unfold goB
      simp [h45, h1]
  · rintro (⟨⟨h1, h2⟩, h3⟩ | ⟨h1, h2⟩)
    · exact ⟨j + 1, h1, h3, h2⟩
    · have ht := target_in hf h1
      refine ⟨m.n.toNat, by omega, ?_, h2⟩
      unfold goB
      have h45 : m.op ≠ 45 := by
        intro h
        rw [h, ret_target] at h1
        cases h1
      simp only [Bool.and_eq_true, Bool.or_eq_true, decide_eq_true_eq]
      exact ⟨h45, .inl ⟨h1, by omega⟩⟩

set_option maxRecDepth 100000 in
set_option maxHeartbeats 1000000 in
theorem Goes_any (A : Option Addr) (c n : Nat) (i k : Nat) (iz kz : Int) (b off : Nat) (op dst a b' nn : Int) (w : World) (hiz : iz = i) (hkz : kz = k) (hA : A = some ⟨b, off, none⟩) (hi : i < n) (hn : n ≤ 5000) (hm : MacAt w b (off + i * 5) ⟨op, dst, a, b', nn⟩) :
    Calls Tryd.prog 41 #[.slice A n c, .int .i64 iz, .int .i64 kz] w fun e w' => e = .returned (.bool (goB ⟨op, dst, a, b', nn⟩ i k)) ∧ Below w.heap.size w w' := by
  subst hA
  subst hiz
  subst hkz
  obtain ⟨c0, c1, c2, c3, c4⟩ := hm
  have HZ := Lib.hid (fld_ok op)
  by_cases h45 : op = 45
  · have HE : Hid (goB ⟨op, dst, a, b', nn⟩ i k = false) := Lib.hid (by unfold goB; simp [h45])
    have e1 : (op == 45) = true := by simp [h45]
    clear h45
    go_enter Tryd.func41, Tryd.ntmps41
    go_wp2_with fail
    go_ret
    exact ⟨ret_bool HE.out.symm, (Below.refl _ _).alloc (Nat.le_refl _) _⟩
  · have e1 : (op == 45) = false := by simp [h45]
    have HE : Hid (goB ⟨op, dst, a, b', nn⟩ i k = ((hasS (fldS op) 116 && (nn == (k : Int))) || ((op != 37) && ((k : Int) == (i : Int) + 1)))) := Lib.hid (by
      unfold goB
      have h1 : decide (op ≠ 45) = true := by simp [h45]
      have h2 : decide (nn = (k : Int)) = (nn == (k : Int)) := rfl
      have h3 : decide (k = i + 1) = ((k : Int) == (i : Int) + 1) := by rw [Bool.eq_iff_iff]; simp; omega
      have h4 : decide (op ≠ 37) = (op != 37) := by rw [Bool.eq_iff_iff]; simp
      simp only
      rw [h1, h2, h3, h4, Bool.true_and])
    clear h45
    go_enter Tryd.func41, Tryd.ntmps41
    go_wp2_with fail
    refine (Fields_any _ _).mono ?_
    rintro e w1 ⟨rfl, hb1⟩
    have hz : w.heap.size < w1.heap.size := by have := hb1.size; simp at this; omega
    have hk1 := (Blk.new w 28 #[.int .i64 op, .int .i64 dst, .int .i64 a, .int .i64 b', .int .i64 nn]).below hb1 (by simp)
    have r0 := hk1.cell 0
    have r4 := hk1.cell 4
    have HB1 : Hid (Below w.heap.size w w1) := Lib.hid (((Below.refl _ _).alloc (Nat.le_refl _) _).trans (hb1.mono (by simp)))
    clear hb1 hk1
    cases ht : hasS (fldS op) 116 <;> cases hn1 : (nn == (k : Int)) <;> cases hn2 : (op != 37) <;> cases hn3 : ((k : Int) == (i : Int) + 1)
    all_goals
      rw [ht, hn1, hn2, hn3] at HE
      go_wp2_with (go_at_call 34; refine (Has_any _ _ _ HZ.out).mono ?_; rintro e w' ⟨rfl, rfl⟩)
      go_ret
      exact ⟨ret_bool (by rw [HE.out]; rfl), HB1.out⟩

/-- The inner loop of LiveOne: instructions gi - 1 .. 0 are to come. -/
def oneIn (ms : List Mac) (r len : Nat) (X : Nat → Bool) (w : World) (gi : Nat) (cv iv : Value) (wx : World) : Prop :=
  ∃ (Y : Nat → Bool) (cb : Bool) (z : Int), cv = .bool cb ∧ iv = .int .i64 z ∧ z = (gi : Int) - 1 ∧ gi ≤ len ∧ Hid (wx.rowIs w.heap.size 4 len (fun i => .bool (Y i))) ∧ Hid (Found ms r Y) ∧ Hid (Below w.heap.size w wx) ∧
    Hid (cb = true → missN Y len < missN X len) ∧ Hid (cb = false → missN Y len = missN X len ∧ ∀ j, gi ≤ j → j < len → stepB ms r Y j = true → Y j = true)
/-- The outer loop. -/
def oneOut (ms : List Mac) (r len : Nat) (w : World) (gk : Nat) (cv : Value) (wr : World) : Prop :=
  ∃ (X : Nat → Bool) (bb : Bool), cv = .bool bb ∧ Hid (wr.rowIs w.heap.size 4 len (fun i => .bool (X i))) ∧ Hid (Found ms r X) ∧ Hid (Below w.heap.size w wr) ∧ Hid (gk = 2 * missN X len + (if bb then 1 else 0)) ∧ Hid (bb = false → Shut ms r X)
section
variable {ms : List Mac} {r len : Nat} {X Y : Nat → Bool} {w wx : World} {j : Nat} {cb : Bool}
theorem oneIn_store (hlen : ms.length = len) (hj : j < len) (hR : wx.rowIs w.heap.size 4 len (fun i => .bool (Y i))) (hF : Found ms r Y) (hB : Below w.heap.size w wx) (h1 : cb = true → missN Y len < missN X len)
    (h0 : cb = false → missN Y len = missN X len ∧ ∀ q, j + 1 ≤ q → q < len → stepB ms r Y q = true → Y q = true) (hy : Y j = false) (hs : stepB ms r Y j = true) :
    oneIn ms r len X w j (.bool true) (.int .i64 ((j : Int) - 1)) (wx.setCell ⟨w.heap.size, j, none⟩ (.bool true)) := by
  have hm := missN_set hy len hj
  have hle : missN Y len ≤ missN X len := by
    cases cb
    · exact Nat.le_of_eq (h0 rfl).1
    · exact Nat.le_of_lt (h1 rfl)
  refine ⟨fun k => if k = j then true else Y k, true, _, rfl, rfl, rfl, by omega, Lib.hid ?_, Lib.hid (found_set hF (by omega) hs), Lib.hid (hB.setCell (Nat.le_refl _) _), Lib.hid fun _ => by omega, Lib.hid fun h => by cases h⟩
  refine (hR.set j (.bool true)).congr fun i hi => ?_
  by_cases e : i = j <;> simp [e]
theorem oneIn_skip (hj : j < len) (hR : wx.rowIs w.heap.size 4 len (fun i => .bool (Y i))) (hF : Found ms r Y) (hB : Below w.heap.size w wx) (h1 : cb = true → missN Y len < missN X len)
    (h0 : cb = false → missN Y len = missN X len ∧ ∀ q, j + 1 ≤ q → q < len → stepB ms r Y q = true → Y q = true) (hs : stepB ms r Y j = true → Y j = true) :
    oneIn ms r len X w j (.bool cb) (.int .i64 ((j : Int) - 1)) wx := by
  refine ⟨Y, cb, _, rfl, rfl, rfl, by omega, Lib.hid hR, Lib.hid hF, Lib.hid hB, Lib.hid h1, Lib.hid fun h => ⟨(h0 h).1, fun q q1 q2 q3 => ?_⟩⟩
  rcases Nat.eq_or_lt_of_le q1 with h4 | h4
  · subst h4; exact hs q3
  · exact (h0 h).2 q h4 q2 q3
theorem oneIn_end (hlen : ms.length = len) (hR : wx.rowIs w.heap.size 4 len (fun i => .bool (Y i))) (hF : Found ms r Y) (hB : Below w.heap.size w wx) (h1 : cb = true → missN Y len < missN X len)
    (h0 : cb = false → missN Y len = missN X len ∧ ∀ q, 0 ≤ q → q < len → stepB ms r Y q = true → Y q = true) : ∃ q, q < 2 * missN X len + 1 ∧ oneOut ms r len w q (.bool cb) wx := by
  refine ⟨2 * missN Y len + (if cb then 1 else 0), ?_, Y, cb, rfl, Lib.hid hR, Lib.hid hF, Lib.hid hB, Lib.hid rfl, Lib.hid fun h i hi hs => ?_⟩
  · cases cb
    · have := (h0 rfl).1
      simp
      omega
    · have := h1 rfl
      simp
      omega
  · exact (h0 h).2 i (Nat.zero_le _) (by omega) hs
end

set_option maxRecDepth 100000 in
set_option maxHeartbeats 4000000 in
theorem LiveOne_any (v : Value) (ms : List Mac) (r : Nat) (w : World) (hv : MacsAt w w.heap.size v ms) (hok : (checkS ms).1 = 0) :
    Calls Tryd.prog 71 #[v, .int .i64 r] w fun e w' => ∃ g, e = .returned (.slice (some ⟨g, 0, none⟩) ms.length ms.length) ∧ w'.rowIs g 4 ms.length (fun i => .bool (liveB ms r i)) ∧ w.heap.size ≤ g ∧ Below w.heap.size w w' := by
  obtain ⟨hl5, hall, ml, hml, _⟩ := (code_ok_iff ms).1 hok
  have hpos : 0 < ms.length := by have := (List.getElem?_eq_some_iff.1 hml).1; omega
  obtain ⟨A, c, rfl, h1, h2, h3⟩ := hv
  obtain ⟨b, off, rfl, hbw, hcell⟩ := h3 hpos
  have HC := Lib.hid hcell
  have HF := Lib.hid hall
  clear hcell hall hml h3 hok
  obtain ⟨len, hlen⟩ : ∃ len, ms.length = len := ⟨_, rfl⟩
  have HL := Lib.hid hlen
  rw [hlen] at h1 h2 hl5 hpos ⊢
  clear hlen
  have hmk := fun W : World => run_make_row' (P := Tryd.prog) 91 4 (.bool false) 1 Tryd.underlying91 infoBool rfl .i64 .i64 len (by omega) (by omega) W
  go_enter Tryd.func71, Tryd.ntmps71
  go_wp2_with fail
  have hrow := World.rowIs_made w (.bool false) len 4
  have hb0 : Below w.heap.size w (w.alloc (.cells (madeCells #[.bool false] len) 4)) := (Below.refl _ _).alloc (Nat.le_refl _) _
  generalize w.alloc (.cells (madeCells #[.bool false] len) 4) = W at *
  have HR0 := Lib.hid hrow
  have HB0 := Lib.hid hb0
  clear hrow hb0 hmk
  go_loopg [6] (2 * missN (fun _ => false) len + 1) (oneOut ms r len w)
  case atStart => exact ⟨fun _ => false, true, rfl, HR0, Lib.hid (found_none ms r), HB0, Lib.hid rfl, Lib.hid (fun h => by cases h)⟩
  case round =>
    obtain ⟨X, bb, rfl, HR, HFd, HB, HG, HS⟩ := hrel
    cases bb
    · go_wp2_with fail
      go_ret
      refine ⟨w.heap.size, rfl, (HR.out.congr fun i hi => ?_), Nat.le_refl _, HB.out⟩
      rw [found_end HFd.out (HS.out (by trivial)) i (by rw [HL.out]; exact hi)]
    · go_wp2_with fail
      obtain ⟨wo, hwo⟩ : ∃ wo : World, wo = wr := ⟨_, rfl⟩
      subst hwo
      obtain ⟨go, hgo⟩ : ∃ go, go = gk := ⟨_, rfl⟩
      subst hgo
      clear HS
      go_loopg [6, 7] len (oneIn ms r len X w)
      case atStart => exact ⟨X, false, _, rfl, rfl, rfl, Nat.le_refl _, HR, HFd, HB, Lib.hid (fun h => by cases h), Lib.hid (fun _ => ⟨rfl, fun j h1 h2 => absurd h2 (by omega)⟩)⟩
      case round =>
        obtain ⟨Y, cb, z, rfl, rfl, hz, hk, HRy, HFy, HBy, HT1, HT0⟩ := hrel
        rcases gk with _ | j
        · have hz1 : z < 0 := by omega
          clear hz
          have HE := Lib.hid (oneIn_end HL.out HRy.out HFy.out HBy.out HT1.out HT0.out)
          go_wp2_with fail
          obtain ⟨q, hq, hr⟩ := HE.out
          go_roundg q
          case measure => have := HG.out; simp at this; omega
          case rel => exact hr
        · obtain rfl : z = (j : Int) := by omega
          clear hz
          obtain ⟨⟨op, dst, a, b', n⟩, hm⟩ : ∃ m, ms[j]? = some m := ⟨ms[j]'(by rw [HL.out]; omega), List.getElem?_eq_getElem _⟩
          obtain ⟨c0, c1, c2, c3, c4⟩ := (HC.out j _ hm).below HBy.out hbw
          have cy := HRy.out.cell (show j < len by omega)
          have Hm := Lib.hid hm
          have hf := HF.out j _ hm
          have Hf := Lib.hid hf
          have hjl : j < len := by omega
          have HSt := Lib.hid (step_code (r := r) (X := Y) hm hf)
          clear hm hf
          cases hy : Y j
          · rw [hy] at cy
            have Hy := Lib.hid hy
            clear hy
            go_wp2_with fail
            refine (macReads_any op dst a b' n r _).mono ?_
            rintro e w2 ⟨rfl, hb2⟩
            have HRy := Lib.hid (row_below HRy.out hb2 HRy.out.lt)
            have HBy := Lib.hid (HBy.out.trans (hb2.mono HBy.out.size))
            obtain ⟨c0, c1, c2, c3, c4⟩ := (HC.out j _ Hm.out).below HBy.out hbw
            have cy := HRy.out.cell hjl
            have fy := HRy.out.frozen j
            rw [Hy.out] at cy
            clear hb2
            cases hrd : rdS ⟨op, dst, a, b', n⟩ r
            · rw [hrd] at HSt
              clear hrd
              go_wp2_with fail
              refine (macWrites_any op dst a b' n r _).mono ?_
              rintro e w3 ⟨rfl, hb3⟩
              have HRy := Lib.hid (row_below HRy.out hb3 HRy.out.lt)
              have HBy := Lib.hid (HBy.out.trans (hb3.mono HBy.out.size))
              obtain ⟨c0, c1, c2, c3, c4⟩ := (HC.out j _ Hm.out).below HBy.out hbw
              have fy := HRy.out.frozen j
              have cy := HRy.out.cell hjl
              rw [Hy.out] at cy
              clear hb3
              cases hwr : wrS ⟨op, dst, a, b', n⟩ r
              · rw [hwr] at HSt
                clear hwr
                go_upto_region 11 with fail
                go_cut [59] (fun s8 wx => s8 = .bool (decide (j + 1 < ms.length) && Y (j + 1) && goB ⟨op, dst, a, b', n⟩ j (j + 1)) ∧ Hid (wx.rowIs w.heap.size 4 len (fun i => .bool (Y i))) ∧ Hid (Below w.heap.size w wx))
                case first =>
                  by_cases hj1 : j + 1 < len
                  · have hd : decide (j + 1 < ms.length) = true := by rw [HL.out]; simpa using hj1
                    have Hd := Lib.hid hd
                    have cy1 := HRy.out.cell hj1
                    clear hd
                    cases hy1 : Y (j + 1)
                    · rw [hy1] at cy1
                      have Hy1 := Lib.hid hy1
                      clear hy1
                      go_wp2_with fail
                      go_meet
                      exact ⟨by rw [Hd.out, Hy1.out]; rfl, HRy, HBy⟩
                    · rw [hy1] at cy1
                      have Hy1 := Lib.hid hy1
                      clear hy1
                      go_wp2_with fail
                      refine (Goes_any _ _ _ j (j + 1) _ _ b off op dst a b' n _ rfl (by omega) rfl hjl hl5 ((HC.out j _ Hm.out).below HBy.out hbw)).mono ?_
                      rintro e w4 ⟨rfl, hb4⟩
                      have HRy := Lib.hid (row_below HRy.out hb4 HRy.out.lt)
                      have HBy := Lib.hid (HBy.out.trans (hb4.mono HBy.out.size))
                      clear hb4 c0 c1 c2 c3 c4 cy cy1 fy
                      cases hg : goB ⟨op, dst, a, b', n⟩ j (j + 1)
                      all_goals
                        have Hg := Lib.hid hg
                        clear hg
                        go_wp2_with fail
                        go_meet
                        exact ⟨by rw [Hd.out, Hy1.out, Hg.out]; rfl, HRy, HBy⟩
                  · have hd : decide (j + 1 < ms.length) = false := by rw [HL.out]; simpa using hj1
                    have Hd := Lib.hid hd
                    have hj1' : ¬ ((j : Int) + 1 < (len : Int)) := by omega
                    clear hd hj1
                    go_wp2_with fail
                    go_meet
                    exact ⟨by rw [Hd.out]; rfl, HRy, HBy⟩
                case rest =>
                  obtain ⟨rfl, HRy, HBy⟩ := hcut
                  have HZ := Lib.hid (fld_ok op)
                  obtain ⟨c0, c1, c2, c3, c4⟩ := (HC.out j _ Hm.out).below HBy.out hbw
                  generalize hi2 : (decide (j + 1 < ms.length) && Y (j + 1) && goB ⟨op, dst, a, b', n⟩ j (j + 1)) = is2 at *
                  clear hi2
                  cases is2
                  all_goals
                    go_upto_region 13 with fail
                    go_cut [76] (fun s8 wx => s8 = .bool (hasS (fldS op) 116 && Y n.toNat) ∧ Hid (wx.rowIs w.heap.size 4 len (fun i => .bool (Y i))) ∧ Hid (Below w.heap.size w wx))
                    case first =>
                      go_wp2_with fail
                      refine (Fields_any _ _).mono ?_
                      rintro e w5 ⟨rfl, hb5⟩
                      have HRy := Lib.hid (row_below HRy.out hb5 HRy.out.lt)
                      have HBy := Lib.hid (HBy.out.trans (hb5.mono HBy.out.size))
                      obtain ⟨c0, c1, c2, c3, c4⟩ := (HC.out j _ Hm.out).below HBy.out hbw
                      clear hb5
                      cases ht : hasS (fldS op) 116
                      · have Ht := Lib.hid ht
                        go_wp2_with (go_at_call 34; refine (Has_any _ _ _ HZ.out).mono ?_; rintro e w' ⟨rfl, rfl⟩)
                        go_meet
                        exact ⟨by rw [Ht.out]; rfl, HRy, HBy⟩
                      · have Ht := Lib.hid ht
                        have hn : 0 ≤ n ∧ n < (ms.length : Int) := target_in Hf.out ht
                        rw [HL.out] at hn
                        obtain ⟨hn0, hn1⟩ := hn
                        have cyn := HRy.out.cell (show n.toNat < len by omega)
                        cases hyn : Y n.toNat
                        all_goals
                          rw [hyn] at cyn
                          have Hyn := Lib.hid hyn
                          clear hyn
                          go_wp2_with (go_at_call 34; refine (Has_any _ _ _ HZ.out).mono ?_; rintro e w' ⟨rfl, rfl⟩)
                          go_meet
                          exact ⟨by rw [Ht.out, Hyn.out]; rfl, HRy, HBy⟩
                    case rest =>
                      obtain ⟨rfl, HRy, HBy⟩ := hcut
                      have cy := HRy.out.cell hjl
                      have fy := HRy.out.frozen j
                      rw [Hy.out] at cy
                      generalize hi3 : (hasS (fldS op) 116 && Y n.toNat) = is3 at *
                      clear hi3
                      cases is3
                      all_goals
                        go_wp2_with fail
                        go_roundg j
                        case measure => omega
                        case rel => first | exact oneIn_skip hjl HRy.out HFy.out HBy.out HT1.out HT0.out fun h => by rw [HSt.out] at h; cases h | exact oneIn_store HL.out hjl HRy.out HFy.out HBy.out HT1.out HT0.out Hy.out (by rw [HSt.out]; rfl)
              · rw [hwr] at HSt
                clear hwr
                go_wp2_with fail
                go_roundg j
                case measure => omega
                case rel => exact oneIn_skip hjl HRy.out HFy.out HBy.out HT1.out HT0.out fun h => by rw [HSt.out] at h; cases h
            · rw [hrd] at HSt
              clear hrd
              go_wp2_with fail
              go_roundg j
              case measure => omega
              case rel => exact oneIn_store HL.out hjl HRy.out HFy.out HBy.out HT1.out HT0.out Hy.out (by rw [HSt.out]; rfl)
          · rw [hy] at cy
            have Hy := Lib.hid hy
            clear hy
            go_wp2_with fail
            go_roundg j
            case measure => omega
            case rel => exact oneIn_skip hjl HRy.out HFy.out HBy.out HT1.out HT0.out fun _ => Hy.out
end Go.Proofs.YtkecgobbklmeaaaDoor
