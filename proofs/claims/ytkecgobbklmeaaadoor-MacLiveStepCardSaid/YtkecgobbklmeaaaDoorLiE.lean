/-
  Contract of the reference's MacLive.
  Conditions: the slice reads as instructions.
-/
import Derived.Test.YtkecgobbklmeaaaDoorLiD
namespace Go.Proofs.YtkecgobbklmeaaaDoor
open Go.RowKit

/-- A row of another element type than the written row's stands. -/
theorem row_grown {w w' : World} {base : Nat} {e : TypeId} {size : Nat} {v : Value} {n0 : Nat} {xs0 : List Value} (hg : w.grownBy w' v.ownBlock) (ho : w.ownsRow base e size v n0 xs0)
    {g : Nat} {t : TypeId} {n : Nat} {f : Nat → Value} (hb : w.rowIs g t n f) (hne : e ≠ t) : w'.rowIs g t n f := by
  obtain ⟨cs, hcs, h2⟩ := id hb
  have : Blk w g t cs := hcs
  exact hb.of_block ((grown_blk hg ho this hne).trans hcs.symm)
/-- The grid that MacLive fills: block g holds the rows' values; each row is the call's own, no two in one block. -/
structure GridOk (w : World) (base g n : Nat) (R : Nat → Value) (F : Nat → List Int) : Prop where
  row : w.rowIs g 29 n R
  own : ∀ i, i < n → OwnInts w base (R i) (F i)
  apart : ∀ i j, i < n → j < n → i ≠ j → ∀ k, (R i).ownBlock = some k → (R j).ownBlock ≠ some k
theorem GridOk.congr {w : World} {base g n : Nat} {R : Nat → Value} {F F' : Nat → List Int} (h : GridOk w base g n R F) (e : ∀ i, i < n → F i = F' i) : GridOk w base g n R F' :=
  ⟨h.row, fun i hi => by rw [← e i hi]; exact h.own i hi, h.apart⟩
theorem GridOk.below {w w' : World} {base g n B : Nat} {R : Nat → Value} {F : Nat → List Int} (h : GridOk w base g n R F) (hb : Below B w w') (hB : B = w.heap.size) : GridOk w' base g n R F :=
  ⟨row_below h.row hb (by have := h.row.lt; omega), fun i hi => (h.own i hi).below hb hB, h.apart⟩
theorem GridOk.step {w w' : World} {base g n q H : Nat} {R : Nat → Value} {F : Nat → List Int} {v' : Value} {x : Int} (h : GridOk w base g n R F) (hq : q < n) (hg : g < base) (hH : w.heap.size ≤ H)
    (ha : Appended w base 3 1 (R q) ((F q).length + 1) ((F q).map (Value.int .i64) ++ [.int .i64 x]) H v' w') :
    GridOk (w'.setCell ⟨g, q, none⟩ v') base g n (fun j => if j = q then v' else R j) (fun j => if j = q then F q ++ [x] else F j) := by
  have hrow : w'.rowIs g 29 n R := row_grown ha.2.2.1 (h.own q hq) h.row (by decide)
  have keep : ∀ j, j < n → j ≠ q → OwnInts w' base (R j) (F j) := fun j hj hne => ha.row (v0 := R j) (h.own j hj) fun k hk => h.apart j q hj hq hne k hk
  have hnew : OwnInts w' base v' (F q ++ [x]) := OwnInts.snoc ha.own
  refine ⟨hrow.set q v', fun i hi => ?_, fun i j hi hj hne k hk => ?_⟩
  · by_cases e : i = q
    · simp only [if_pos e]
      exact hnew.set hg v'
    · simp only [if_neg e]
      exact (keep i hi e).set hg v'
  · have lt : ∀ j, j < n → ∀ k, (R j).ownBlock = some k → k < w.heap.size := fun j hj k hk => (World.ownsRow.lt (h.own j hj) k hk).2
    by_cases e : i = q
    · rw [if_pos e] at hk
      have e2 : j ≠ q := by omega
      rw [if_neg e2]
      rcases ha.2.2.2 with h1 | h1
      · rw [h1] at hk
        exact h.apart q j hq hj (by omega) k hk
      · rw [h1] at hk
        cases hk
        intro h2
        have := lt j hj _ h2
        omega
    · rw [if_neg e] at hk
      by_cases e2 : j = q
      · rw [if_pos e2]
        rcases ha.2.2.2 with h1 | h1
        · rw [h1]
          exact h.apart i q hi hq e k hk
        · rw [h1]
          have := lt i hi _ hk
          intro h2
          cases h2
          omega
      · rw [if_neg e2]
        exact h.apart i j hi hj hne k hk

set_option maxRecDepth 100000 in
set_option maxHeartbeats 4000000 in
theorem MacLive_any (v : Value) (ms : List Mac) (w : World) (hv : MacsAt w w.heap.size v ms) :
    Calls Tryd.prog 38 #[v] w (RowsPost w (checkS ms) (liveL ms)) := by
  have HV := Lib.hid hv
  have hA : Below w.heap.size w (w.alloc (.cells #[.int .i64 0, .int .i64 0] 24)) := (Below.refl _ _).alloc (Nat.le_refl _) _
  have HC := Lib.hid (MacCheck_any v ms (w.alloc (.cells #[.int .i64 0, .int .i64 0] 24)) ((HV.out.below hA (Nat.le_refl _)).more (by simp)))
  clear hA
  by_cases hf : (checkS ms).1 = 0
  · have hf0 : ((checkS ms).1 != 0) = false := by simp [hf]
    have Hf := Lib.hid hf
    have HZ : Hid (checkS ms = (0, 0)) := Lib.hid (check_zero hf)
    have hl5 := ((code_ok_iff ms).1 hf).1
    obtain ⟨A, c, hve, hlc, _⟩ := hv
    clear hf
    obtain ⟨len, hlen⟩ : ∃ len, ms.length = len := ⟨_, rfl⟩
    have HL := Lib.hid hlen
    rw [hlen] at hve hl5 hlc
    clear hlen
    subst hve
    have hmk := fun W : World => run_make_row' (P := Tryd.prog) 43 29 (.slice none 0 0) 24 Tryd.underlying43 infoRow rfl .i64 .i64 len (by omega) (by omega) W
    go_enter Tryd.func38, Tryd.ntmps38
    go_wp2_with fail
    refine HC.out.mono ?_
    rintro e w1 ⟨rfl, hb1⟩
    have hz : w.heap.size < w1.heap.size := by have := hb1.size; simp at this; omega
    have h0 := (Blk.new w 24 #[.int .i64 0, .int .i64 0]).below hb1 (by simp)
    have hk1 := h0.alloc (.cells #[.int .i64 (checkS ms).1, .int .i64 (checkS ms).2] 24)
    have hB1 : Below w.heap.size w (w1.alloc (.cells #[.int .i64 (checkS ms).1, .int .i64 (checkS ms).2] 24)) := (((Below.refl _ _).alloc (Nat.le_refl _) _).trans (hb1.mono (by simp))).alloc (by omega) _
    have HK1 := Lib.hid (hk1.alloc (.cells (madeCells #[.slice none 0 0] len) 29))
    have HB1 := Lib.hid (hB1.alloc hB1.size (.cells (madeCells #[.slice none 0 0] len) 29))
    have hz1 : w.heap.size < (w1.alloc (.cells #[.int .i64 (checkS ms).1, .int .i64 (checkS ms).2] 24)).heap.size := hk1.lt
    have hrow := World.rowIs_made (w1.alloc (.cells #[.int .i64 (checkS ms).1, .int .i64 (checkS ms).2] 24)) (.slice none 0 0) len 29
    have hsz : ((w1.alloc (.cells #[.int .i64 (checkS ms).1, .int .i64 (checkS ms).2] 24)).alloc (.cells (madeCells #[.slice none 0 0] len) 29)).heap.size = w1.heap.size + 2 := by simp
    rw [World.size_alloc] at hrow hz1
    have HR1 := Lib.hid hrow
    have HSz := Lib.hid hsz
    clear hb1 h0 hk1 hB1 hrow hsz
    go_wp2_with fail
    generalize (w1.alloc (.cells #[.int .i64 (checkS ms).1, .int .i64 (checkS ms).2] 24)).alloc (.cells (madeCells #[.slice none 0 0] len) 29) = W at *
    generalize w1.heap.size = z1 at *
    clear hmk
    go_loopw [6] (fun rv wr => ∃ (k : Nat) (R : Nat → Value), k ≤ 16 ∧ rv = .int .i64 k ∧ Hid (Below (z1 + 1) W wr) ∧ Hid (GridOk wr (z1 + 2) (z1 + 1) len R (fun i => listP (fun r => liveB ms r i) k))) (fun rv _ => 16 - (intOf rv).toNat)
    case atStart => exact ⟨0, fun _ => .slice none 0 0, by omega, rfl, Lib.hid (Below.refl _ _), Lib.hid ⟨HR1.out, fun i _ => OwnInts.nil _ _, fun i j _ _ _ k h => by simp [Value.ownBlock] at h⟩⟩
    case round =>
      obtain ⟨k, R, hk, rfl, HB, HG⟩ := hrel
      have hzr : z1 + 2 ≤ wr.heap.size := by have := HB.out.size; have := HSz.out; omega
      by_cases hlt : k < 16
      · go_wp2_with fail
        refine (LiveOne_any _ ms k _ (((HV.out.below HB1.out (Nat.le_refl _)).below HB.out (by omega)).more (by omega)) Hf.out).mono ?_
        rintro e w2 ⟨gi, he, hri, hgi, hb2⟩
        rw [HL.out] at he hri
        subst he
        have HRi := Lib.hid hri
        have HB2 := Lib.hid (HB.out.trans (hb2.mono (by omega)))
        have HG2 := Lib.hid (HG.out.below hb2 rfl)
        clear hri hb2
        go_wp2_with fail
        obtain ⟨wo, hwo⟩ : ∃ wo : World, wo = wr := ⟨_, rfl⟩
        subst hwo
        obtain ⟨Ro, hRo⟩ : ∃ Ro : Nat → Value, Ro = R := ⟨_, rfl⟩
        subst hRo
        go_loopw [8] (fun iv wr => ∃ (q : Nat) (R : Nat → Value), q ≤ len ∧ iv = .int .i64 q ∧ Hid (Below (z1 + 1) W wr) ∧ Hid (wr.rowIs gi 4 len (fun i => .bool (liveB ms k i))) ∧ Hid (GridOk wr (z1 + 2) (z1 + 1) len R (fun i => listP (fun r => liveB ms r i) (if i < q then k + 1 else k)))) (fun iv _ => len - (intOf iv).toNat)
        case atStart => exact ⟨0, Ro, Nat.zero_le _, rfl, HB2, HRi, Lib.hid (HG2.out.congr fun i hi => by simp)⟩
        case round =>
          obtain ⟨q, R, hq, rfl, HBq, HRq, HGq⟩ := hrel
          have hzq : z1 + 2 ≤ wr.heap.size := by have := HBq.out.size; have := HSz.out; omega
          by_cases hql : q < len
          · have ci := HRq.out.cell hql
            have hstep : ∀ i, i < len → (if i < q + 1 then k + 1 else k) = if i = q then k + 1 else (if i < q then k + 1 else k) := by
              intro i _
              by_cases e : i = q
              · rw [if_pos e, if_pos (by omega)]
              · rw [if_neg e]
                by_cases e2 : i < q
                · rw [if_pos e2, if_pos (by omega)]
                · rw [if_neg e2, if_neg (by omega)]
            have HSt := Lib.hid hstep
            clear hstep
            have hsucc := listP_succ (fun r => liveB ms r q) k
            cases hlv : liveB ms k q
            · rw [hlv] at ci hsucc
              have HSu := Lib.hid hsucc
              clear hsucc hlv
              go_wp2_with fail
              go_roundw
              case rel =>
                refine ⟨q + 1, R, by omega, by go_num, HBq, HRq, Lib.hid (HGq.out.congr fun i hi => ?_)⟩
                rw [HSt.out i hi]
                by_cases e : i = q
                · subst e
                  rw [if_pos rfl, if_neg (by omega), HSu.out]
                  rfl
                · rw [if_neg e]
              case measure => simp [intOf]; omega
            · rw [hlv] at ci hsucc
              have HSu := Lib.hid hsucc
              have hown := HGq.out.own q hql
              obtain ⟨Aq, cq, hRq⟩ := own_form hown
              have cg := HGq.out.row.cell hql
              rw [hRq] at cg
              have HRe := Lib.hid hRq
              have hrl := listP_len (fun r => liveB ms r q) (if q < q then k + 1 else k)
              have hkl : (if q < q then k + 1 else k) = k := if_neg (by omega)
              rw [hkl] at hown hrl cg HRe
              have HO := Lib.hid hown
              have HKl := Lib.hid hkl
              clear hsucc hlv hRq hown hkl
              go_wp2_with (at_builtin; refine app_one rfl _ _ 29 3 rfl (.int .i64 0) 1 8 Tryd.underlying29 infoInt rfl (by decide) (by decide) (z1 + 2) (.slice Aq _ cq) _ _ (by rfl) (HRe.out ▸ HO.out) _ [.int .i64 (k : Int)] (by rfl) rfl (fun x hx => by simp at hx; subst hx; rfl) rfl (by omega) hzq ?_; intro v4 w4 HA4; obtain ⟨A4, c4, hv4⟩ := own_form (OwnInts.snoc HA4.out.own); subst hv4; have hr4 := row_grown HA4.out.2.2.1 (HRe.out ▸ HO.out) HGq.out.row (by decide); have cg4 := hr4.cell hql; have fg4 := hr4.frozen q; have HR4 := Lib.hid (row_grown HA4.out.2.2.1 (HRe.out ▸ HO.out) HRq.out (by decide)); clear hr4)
              go_roundw
              case rel =>
                have hap := HA4.out
                rw [← HRe.out] at hap
                have hst := GridOk.step HGq.out hql (by omega) (Nat.le_succ _) (by rw [HKl.out]; exact hap)
                simp only [List.length_append, List.length_cons, List.length_nil, Nat.zero_add] at hst
                refine ⟨q + 1, _, by omega, by go_num, Lib.hid ((HBq.out.trans (HA4.out.below.mono (by omega))).setCell (Nat.le_refl _) _), Lib.hid (HR4.out.setOther (show gi ≠ z1 + 1 by omega) _), Lib.hid (hst.congr fun i hi => ?_)⟩
                rw [HSt.out i hi]
                by_cases e : i = q
                · subst e
                  rw [if_pos rfl, if_pos rfl, HSu.out, HKl.out]
                  rfl
                · rw [if_neg e, if_neg e]
              case measure => simp [intOf]; omega
          · obtain rfl : q = len := by omega
            go_wp2_with fail
            go_roundw
            case rel =>
              exact ⟨k + 1, R, by omega, by go_num, HBq, Lib.hid (HGq.out.congr fun i hi => by rw [if_pos hi])⟩
            case measure => simp [intOf]; omega
      · obtain rfl : k = 16 := by omega
        have hk2 := HK1.out.below HB.out (by omega)
        have r0 := hk2.cell 0
        have r1 := hk2.cell 1
        have f0 := hk2.frozen 0
        have f1 := hk2.frozen 1
        have HK3 := Lib.hid hk2
        have HB3 := Lib.hid (HB1.out.trans (HB.out.mono (by omega)))
        clear hk2
        go_wp2_with fail
        refine end_tmp_cell rfl rfl (HK3.out.set2 _ _) Tryd.underlying24 rfl (by kernel_rfl) rfl ⟨_, by rw [HZ.out], ?_, (HB3.out.setCell (Nat.le_refl _) _).setCell (Nat.le_refl _) _⟩
        unfold liveL
        rw [if_pos Hf.out, HL.out]
        refine ⟨some ⟨z1 + 1, 0, none⟩, len, by rw [liveTo_len]; rfl, by rw [liveTo_len]; exact Nat.le_refl _, by omega, fun _ => ⟨z1 + 1, 0, rfl, by simp [World.setCell]; omega, fun i xs hi => ?_⟩⟩
        have hil : i < len := by have := (List.getElem?_eq_some_iff.1 hi).1; rwa [liveTo_len] at this
        have hxs : xs = listP (fun r => liveB ms r i) 16 := by
          unfold liveTo at hi
          rw [List.getElem?_map, List.getElem?_range hil] at hi
          simpa using hi.symm
        subst hxs
        have hrow := (HG.out.row.setOther (show z1 + 1 ≠ w.heap.size by omega) (a := ⟨w.heap.size, 0, none⟩) (.int .i64 0)).setOther (show z1 + 1 ≠ w.heap.size by omega) (a := ⟨w.heap.size, 1, none⟩) (.int .i64 0)
        refine ⟨R i, by rw [Nat.zero_add]; exact hrow.cell hil, ?_⟩
        exact (((HG.out.own i hil).set (show w.heap.size < z1 + 2 by omega) _).set (show w.heap.size < z1 + 2 by omega) _).ints
  · have hf0 : ((checkS ms).1 != 0) = true := by simp [hf]
    have HL : Hid (liveL ms = []) := Lib.hid (by unfold liveL; rw [if_neg hf])
    clear hf
    go_enter Tryd.func38, Tryd.ntmps38
    go_wp2_with fail
    refine HC.out.mono ?_
    rintro e w1 ⟨rfl, hb1⟩
    have hz : w.heap.size < w1.heap.size := by have := hb1.size; simp at this; omega
    have h0 := (Blk.new w 24 #[.int .i64 0, .int .i64 0]).below hb1 (by simp)
    have r0 := h0.cell 0
    have r1 := h0.cell 1
    have f0 := h0.frozen 0
    have f1 := h0.frozen 1
    have HB1 : Hid (Below w.heap.size w w1) := Lib.hid (((Below.refl _ _).alloc (Nat.le_refl _) _).trans (hb1.mono (by simp)))
    have HK1 := Lib.hid h0
    clear hb1 h0
    go_wp2_with fail
    go_region
    all_goals
      go_wp2_with fail
      refine end_tmp_cell rfl rfl (Blk.alloc (HK1.out.set2 _ _) _) Tryd.underlying24 rfl (by kernel_rfl) rfl ⟨_, rfl, ?_, below_drew (Below.alloc (((HB1.out.setCell (by simp) _).setCell (by simp) _)) (by simp; omega) _)⟩
      rw [HL.out]
      exact RowsAt.nil _ _
end Go.Proofs.YtkecgobbklmeaaaDoor
