/-
  Contract of same.Rows; the law MacLiveSays walks to true.
  Conditions: the slices read as lists of numbers; as instructions; the table shapes lies as its initialiser lays it.
-/
import Derived.Test.YtkecgobbklmeaaaDoorLiE
namespace Go.Proofs.YtkecgobbklmeaaaDoor
open Go.RowKit
attribute [local go_sem ↓] Go.wp_at_zero Go.wp_at_succ

set_option maxRecDepth 100000 in
set_option maxHeartbeats 2000000 in
theorem Rows_any (v1 v2 : Value) (xss yss : List (List Int)) (w : World) (h1 : RowsAt w w.heap.size v1 xss) (h2 : RowsAt w w.heap.size v2 yss) :
    Calls Tryd.prog 39 #[v1, v2] w fun e w' => e = .returned (.bool (decide (xss = yss))) ∧ Below w.heap.size w w' := by
  obtain ⟨A1, c1, rfl, hl1, hm1, hc1⟩ := h1
  obtain ⟨A2, c2, rfl, hl2, hm2, hc2⟩ := h2
  by_cases hne : xss.length = yss.length
  · obtain ⟨len, hlen⟩ : ∃ len, xss.length = len := ⟨_, rfl⟩
    have HN := Lib.hid (And.intro hlen (hne.symm.trans hlen))
    rw [hlen] at hl1 hc1 ⊢
    rw [hne.symm.trans hlen] at hl2 hc2 ⊢
    have HC1 := Lib.hid hc1
    have HC2 := Lib.hid hc2
    clear hne hlen hc1 hc2
    go_enter Tryd.func39, Tryd.ntmps39
    go_wp2_with fail
    go_loopw [5] (fun i wr => ∃ k : Nat, k ≤ len ∧ i = .int .i64 k ∧ Hid (∀ j, j < k → xss[j]? = yss[j]?) ∧ Hid (Below w.heap.size w wr)) (fun i _ => len - (intOf i).toNat)
    case atStart => exact ⟨0, Nat.zero_le _, rfl, Lib.hid (fun j h => absurd h (Nat.not_lt_zero j)), Lib.hid (Below.refl _ _)⟩
    case round =>
      obtain ⟨k, hk, rfl, HF, HB⟩ := hrel
      by_cases hlt : k < len
      · obtain ⟨b1, off1, hA1, hb1, hcc1⟩ := HC1.out (by omega)
        obtain ⟨b2, off2, hA2, hb2, hcc2⟩ := HC2.out (by omega)
        subst hA1
        subst hA2
        obtain ⟨xs, hx⟩ : ∃ xs, xss[k]? = some xs := ⟨xss[k]'(by rw [HN.out.1]; exact hlt), List.getElem?_eq_getElem _⟩
        obtain ⟨ys, hy⟩ : ∃ ys, yss[k]? = some ys := ⟨yss[k]'(by rw [HN.out.2]; exact hlt), List.getElem?_eq_getElem _⟩
        obtain ⟨r1, hr1, hi1⟩ := hcc1 k xs hx
        obtain ⟨r2, hr2, hi2⟩ := hcc2 k ys hy
        have Hx := Lib.hid hx
        have Hy := Lib.hid hy
        have HI := Lib.hid (And.intro ((hi1.below HB.out (Nat.le_refl _)).more HB.out.size) ((hi2.below HB.out (Nat.le_refl _)).more HB.out.size))
        have d1 : wr.cell? ⟨b1, off1 + k, none⟩ = some r1 := (bcell HB.out hb1).trans hr1
        have d2 : wr.cell? ⟨b2, off2 + k, none⟩ = some r2 := (bcell HB.out hb2).trans hr2
        have hk0 : (0 : Int) ≤ (k : Int) := Int.natCast_nonneg _
        have hk1 : (k : Int) < (len : Int) := by omega
        clear hx hy hcc1 hcc2 hr1 hr2 hi1 hi2
        go_upto_region 6 with fail
        go_cut [26] (fun s wx => s = .bool (!decide (xs = ys)) ∧ Hid (Below w.heap.size w wx))
        case first =>
          go_region_held3 (fun w' => w'.cell? ⟨b1, off1 + k, none⟩ = some r1 ∧ w'.cell? ⟨b2, off2 + k, none⟩ = some r2) (first | go_keep | (go_split_ands; refine ⟨?_, ?_⟩ <;> assumption))
            ((go_at_call 29; refine (Ints_any r1 r2 xs ys _ ?_ ?_).mono ?_; (exact HI.out.1); (exact HI.out.2); rintro e w3 ⟨rfl, hb3⟩; have HB3 : Hid (Below w.heap.size w w3) := Lib.hid (by first | exact HB.out.trans (hb3.mono HB.out.size) | exact (below_drew HB.out).trans (hb3.mono HB.out.size)); have d1 : w3.cell? ⟨b1, off1 + k, none⟩ = some r1 := (bcell HB3.out hb1).trans ((bcell HB.out hb1).symm.trans d1); have d2 : w3.cell? ⟨b2, off2 + k, none⟩ = some r2 := (bcell HB3.out hb2).trans ((bcell HB.out hb2).symm.trans d2); clear hb3))
          all_goals
            go_wp2_with fail
            go_meet
            first | exact ⟨rfl, HB3⟩ | exact ⟨rfl, Lib.hid (below_drew HB3.out)⟩
        case rest =>
          obtain ⟨rfl, HB2⟩ := hcut
          by_cases he : xs = ys
          · have hd : decide (xs = ys) = true := by simp [he]
            have He := Lib.hid he
            rw [hd]
            clear he hd
            go_wp2_with fail
            go_roundw
            case rel =>
              refine ⟨k + 1, by omega, by go_num, Lib.hid fun j hj => ?_, HB2⟩
              rcases Nat.lt_or_ge j k with h | h
              · exact HF.out j h
              · obtain rfl : j = k := by omega
                rw [Hx.out, Hy.out, He.out]
            case measure => simp [intOf]; omega
          · have hd : decide (xs = ys) = false := by simp [he]
            have He := Lib.hid he
            rw [hd]
            clear he hd
            go_wp2_with fail
            go_ret
            exact ⟨ret_bool (by symm; apply decide_eq_false; intro h; apply He.out; have h1 := Hx.out; rw [h, Hy.out] at h1; cases h1; rfl), HB2.out⟩
      · obtain rfl : k = len := by omega
        go_wp2_with fail
        go_ret
        refine ⟨ret_bool (by symm; apply decide_eq_true; apply List.ext_getElem?; intro j; rcases Nat.lt_or_ge j k with h | h; exact HF.out j h; rw [List.getElem?_eq_none (by rw [HN.out.1]; exact h), List.getElem?_eq_none (by rw [HN.out.2]; exact h)]), HB.out⟩
  · have hb : ((xss.length : Int) != (yss.length : Int)) = true := by simp; omega
    go_enter Tryd.func39, Tryd.ntmps39
    go_wp2_with fail
    go_ret
    exact ⟨ret_bool (by symm; apply decide_eq_false; intro h; apply hne; rw [h]), Below.refl _ _⟩

set_option maxRecDepth 100000 in
set_option maxHeartbeats 1000000 in
theorem MacLiveSays_any (v : Value) (ms : List Mac) (w : World) (hv : MacsAt w w.heap.size v ms) (ht : Tab w) :
    Calls Tryd.prog 9 #[v] w fun e w' => e = .returned (.bool true) ∧ Below w.heap.size w w' := by
  have HV := Lib.hid hv
  have HT := Lib.hid ht
  obtain ⟨A, c, hve, hl1, hl2, _⟩ := hv
  clear ht
  obtain ⟨len, hlen⟩ : ∃ len, ms.length = len := ⟨_, rfl⟩
  rw [hlen] at hve hl1 hl2
  clear hlen
  subst hve
  by_cases h200 : 200 < len
  · go_enter Tryd.func9, Tryd.ntmps9
    go_wp2_with fail
    go_ret
    exact ⟨rfl, Below.refl _ _⟩
  go_enter Tryd.func9, Tryd.ntmps9
  go_wp2_with fail
  refine (Live_any _ ms _ HV.out HT.out).mono ?_
  rintro e w1 ⟨v1, rfl, hr1, hb1⟩
  have HA1 : Hid (Below w.heap.size w (w1.alloc (.cells #[.int .i64 (checkS ms).1, .int .i64 (checkS ms).2] 24))) := Lib.hid (hb1.alloc hb1.size _)
  have HK1 : Hid (Blk (w1.alloc (.cells #[.int .i64 (checkS ms).1, .int .i64 (checkS ms).2] 24)) w1.heap.size 24 #[.int .i64 (checkS ms).1, .int .i64 (checkS ms).2]) := Lib.hid (Blk.new _ _ _)
  have HR1 : Hid (RowsAt (w1.alloc (.cells #[.int .i64 (checkS ms).1, .int .i64 (checkS ms).2] 24)) w1.heap.size v1 (liveL ms)) := Lib.hid (hr1.below ((Below.refl w1.heap.size _).alloc (Nat.le_refl _) _) (Nat.le_refl _))
  clear hb1 hr1
  go_wp2_with fail
  generalize hW : w1.alloc (.cells #[.int .i64 (checkS ms).1, .int .i64 (checkS ms).2] 24) = W1 at *
  clear hW
  refine (MacLive_any _ ms _ ((HV.out.below HA1.out (Nat.le_refl _)).more HA1.out.size)).mono ?_
  rintro e w2 ⟨v2, rfl, hr2, hb2⟩
  have hlt := HK1.out.lt
  have HA2 : Hid (Below w.heap.size w (w2.alloc (.cells #[.int .i64 (checkS ms).1, .int .i64 (checkS ms).2] 24))) := Lib.hid ((HA1.out.trans (hb2.mono HA1.out.size)).alloc (Nat.le_trans HA1.out.size hb2.size) _)
  have HX1 := Lib.hid ((HR1.out.below (hb2.alloc hb2.size (.cells #[.int .i64 (checkS ms).1, .int .i64 (checkS ms).2] 24)) (Nat.le_of_lt hlt)).more (show w1.heap.size ≤ (w2.alloc (.cells #[.int .i64 (checkS ms).1, .int .i64 (checkS ms).2] 24)).heap.size by have := hb2.size; simp; omega))
  have HX2 := Lib.hid ((hr2.below ((Below.refl w2.heap.size _).alloc (Nat.le_refl _) (.cells #[.int .i64 (checkS ms).1, .int .i64 (checkS ms).2] 24)) (Nat.le_refl _)).more (show w2.heap.size ≤ (w2.alloc (.cells #[.int .i64 (checkS ms).1, .int .i64 (checkS ms).2] 24)).heap.size by simp))
  have hk2 := HK1.out.below hb2 hlt
  have HK2 := Lib.hid (hk2.alloc (.cells #[.int .i64 (checkS ms).1, .int .i64 (checkS ms).2] 24))
  have HK3 : Hid (Blk (w2.alloc (.cells #[.int .i64 (checkS ms).1, .int .i64 (checkS ms).2] 24)) w2.heap.size 24 #[.int .i64 (checkS ms).1, .int .i64 (checkS ms).2]) := Lib.hid (Blk.new _ _ _)
  clear hr2 hb2 hk2
  go_wp2_with fail
  generalize hW : w2.alloc (.cells #[.int .i64 (checkS ms).1, .int .i64 (checkS ms).2] 24) = W2 at *
  clear hW
  refine (Rows_any v1 v2 _ _ _ HX1.out HX2.out).mono ?_
  rintro e w3 ⟨rfl, hb3⟩
  have hk3 := HK2.out.below hb3 HK2.out.lt
  have hk4 := HK3.out.below hb3 HK3.out.lt
  have r0 := hk3.cell 0
  have r1 := hk3.cell 1
  have q0 := hk4.cell 0
  have q1 := hk4.cell 1
  have hd : decide (liveL ms = liveL ms) = true := by simp
  have HA3 := Lib.hid (HA2.out.trans (hb3.mono HA2.out.size))
  rw [hd]
  clear hb3 hk3 hk4 hd
  go_wp2_with fail
  go_ret
  exact ⟨ret_bool (by simp), HA3.out⟩
end Go.Proofs.YtkecgobbklmeaaaDoor
