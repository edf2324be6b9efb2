/-
  The law ClashOfSays.
  Conditions: the unit's numbers are Go's.
-/
import Derived.Test.YtgnkkgbjcodihaaDoorOfF
namespace Go.Proofs.YtgnkkgbjcodihaaDoor
open Go.RowKit

theorem below_drew {B : Nat} {a w : World} (h : Below B a w) : Below B a w.drew := ⟨h.os, h.tape, h.output, h.size, h.block⟩
set_option maxRecDepth 100000 in
set_option maxHeartbeats 2000000 in
theorem Rows_any (v1 v2 : Value) (xss yss : List (List Int)) (w : World) (h1 : RowsAt w w.heap.size v1 xss) (h2 : RowsAt w w.heap.size v2 yss) :
    Calls Tryd.prog 22 #[v1, v2] w fun e w' => e = .returned (.bool (decide (xss = yss))) ∧ Below w.heap.size w w' := by
  obtain ⟨A1, c1, rfl, hl1, hm1, hc1⟩ := h1
  obtain ⟨A2, c2, rfl, hl2, hm2, hc2⟩ := h2
  by_cases hne : xss.length = yss.length
  · obtain ⟨len, hlen⟩ : ∃ len, xss.length = len := ⟨_, rfl⟩
    have HN := Lib.hid (And.intro hlen (hne.symm.trans hlen))
    rw [hlen] at hl1 hc1 ⊢
    rw [hne.symm.trans hlen] at hl2 hc2 ⊢
    have HC1 := Lib.hid hc1
    have HC2 := Lib.hid hc2
    clear hne hlen hc1 hc2
    go_enter Tryd.func22, Tryd.ntmps22
    go_wp2_with fail
    go_loopw [5] (fun i wr => ∃ k : Nat, k ≤ len ∧ i = .int .i64 k ∧ Hid (∀ j, j < k → xss[j]? = yss[j]?) ∧ Hid (Below w.heap.size w wr)) (fun i _ => len - (intOf i).toNat)
    case atStart => exact ⟨0, Nat.zero_le _, rfl, Lib.hid (fun j h => absurd h (Nat.not_lt_zero j)), Lib.hid (Below.refl _ _)⟩
    case round =>
      obtain ⟨k, hk, rfl, HF, HB⟩ := hrel
      by_cases hlt : k < len
      · obtain ⟨b1, off1, hA1, hb1, hcc1⟩ := HC1.out (by omega)
        obtain ⟨b2, off2, hA2, hb2, hcc2⟩ := HC2.out (by omega)
        subst hA1
        subst hA2
        obtain ⟨xs, hx⟩ : ∃ xs, xss[k]? = some xs := ⟨xss[k]'(by rw [HN.out.1]; exact hlt), List.getElem?_eq_getElem _⟩
        obtain ⟨ys, hy⟩ : ∃ ys, yss[k]? = some ys := ⟨yss[k]'(by rw [HN.out.2]; exact hlt), List.getElem?_eq_getElem _⟩
        obtain ⟨r1, hr1, hi1⟩ := hcc1 k xs hx
        obtain ⟨r2, hr2, hi2⟩ := hcc2 k ys hy
        have Hx := Lib.hid hx
        have Hy := Lib.hid hy
        have HI := Lib.hid (And.intro ((hi1.below HB.out (Nat.le_refl _)).more HB.out.size) ((hi2.below HB.out (Nat.le_refl _)).more HB.out.size))
        have d1 : wr.cell? ⟨b1, off1 + k, none⟩ = some r1 := (bcell HB.out hb1).trans hr1
        have d2 : wr.cell? ⟨b2, off2 + k, none⟩ = some r2 := (bcell HB.out hb2).trans hr2
        have hk0 : (0 : Int) ≤ (k : Int) := Int.natCast_nonneg _
        have hk1 : (k : Int) < (len : Int) := by omega
        clear hx hy hcc1 hcc2 hr1 hr2 hi1 hi2
        go_upto_region 6 with fail
        go_cut [26] (fun s wx => s = .bool (!decide (xs = ys)) ∧ Hid (Below w.heap.size w wx))
        case first =>
          go_region_held3 (fun w' => w'.cell? ⟨b1, off1 + k, none⟩ = some r1 ∧ w'.cell? ⟨b2, off2 + k, none⟩ = some r2) (first | go_keep | (go_split_ands; refine ⟨?_, ?_⟩ <;> assumption))
            ((go_at_call 13; refine (Ints_any r1 r2 xs ys _ ?_ ?_).mono ?_; (exact HI.out.1); (exact HI.out.2); rintro e w3 ⟨rfl, hb3⟩; have HB3 : Hid (Below w.heap.size w w3) := Lib.hid (by first | exact HB.out.trans (hb3.mono HB.out.size) | exact (below_drew HB.out).trans (hb3.mono HB.out.size)); have d1 : w3.cell? ⟨b1, off1 + k, none⟩ = some r1 := (bcell HB3.out hb1).trans ((bcell HB.out hb1).symm.trans d1); have d2 : w3.cell? ⟨b2, off2 + k, none⟩ = some r2 := (bcell HB3.out hb2).trans ((bcell HB.out hb2).symm.trans d2); clear hb3))
          all_goals
            go_wp2_with fail
            go_meet
            first | exact ⟨rfl, HB3⟩ | exact ⟨rfl, Lib.hid (below_drew HB3.out)⟩
        case rest =>
          obtain ⟨rfl, HB2⟩ := hcut
          by_cases he : xs = ys
          · have hd : decide (xs = ys) = true := by simp [he]
            have He := Lib.hid he
            rw [hd]
            clear he hd
            go_wp2_with fail
            go_roundw
            case rel =>
              refine ⟨k + 1, by omega, by go_num, Lib.hid fun j hj => ?_, HB2⟩
              rcases Nat.lt_or_ge j k with h | h
              · exact HF.out j h
              · obtain rfl : j = k := by omega
                rw [Hx.out, Hy.out, He.out]
            case measure => simp [intOf]; omega
          · have hd : decide (xs = ys) = false := by simp [he]
            have He := Lib.hid he
            rw [hd]
            clear he hd
            go_wp2_with fail
            go_ret
            exact ⟨ret_bool (by symm; apply decide_eq_false; intro h; apply He.out; have h1 := Hx.out; rw [h, Hy.out] at h1; cases h1; rfl), HB2.out⟩
      · obtain rfl : k = len := by omega
        go_wp2_with fail
        go_ret
        refine ⟨ret_bool (by symm; apply decide_eq_true; apply List.ext_getElem?; intro j; rcases Nat.lt_or_ge j k with h | h; exact HF.out j h; rw [List.getElem?_eq_none (by rw [HN.out.1]; exact h), List.getElem?_eq_none (by rw [HN.out.2]; exact h)]), HB.out⟩
  · have hb : ((xss.length : Int) != (yss.length : Int)) = true := by simp; omega
    go_enter Tryd.func22, Tryd.ntmps22
    go_wp2_with fail
    go_ret
    exact ⟨ret_bool (by symm; apply decide_eq_false; intro h; apply hne; rw [h]), Below.refl _ _⟩

set_option maxRecDepth 100000 in
set_option maxHeartbeats 2000000 in
theorem ClashOfSays_any (gv fv : Value) (gs : List Glob) (fs : List FunU) (k : Int) (w : World) (hk : I64 k) (hu : UnitAt w w.heap.size gv fv gs fs) :
    Calls Tryd.prog 7 #[.agg #[gv, fv], .int .i64 k] w fun e w' => e = .returned (.bool true) ∧ Below w.heap.size w w' := by
  have HU := Lib.hid hu
  obtain ⟨A, c, rfl, hl1, hl2⟩ := SlAt.form hu.funs
  have Hk := Lib.hid hk
  have HW0 : Hid (Below w.heap.size w (w.alloc (.cells #[gv, .slice A fs.length c] 25))) := Lib.hid ((Below.refl _ _).alloc (Nat.le_refl _) _)
  have HC0 : Hid (Blk (w.alloc (.cells #[gv, .slice A fs.length c] 25)) w.heap.size 25 #[gv, .slice A fs.length c]) := Lib.hid (Blk.new w _ _)
  clear hu hk
  go_enter Tryd.func7, Tryd.ntmps7
  go_upto_region 1 with fail
  generalize w.alloc (.cells #[gv, .slice A fs.length c] 25) = W0 at *
  have c0 := HC0.out.cell 0
  have c1 := HC0.out.cell 1
  have HU0 := Lib.hid (HU.out.later HW0.out)
  go_wp2_with fail
  refine (Of_any gv _ gs fs k W0 Hk.out HU0.out).mono ?_
  rintro e W1 ⟨v1, rfl, ho1, hb1⟩
  obtain ⟨uc, ua, hun⟩ : ∃ uc ua, clashF gs fs k = (uc, ua) := ⟨_, _, rfl⟩
  rw [hun]
  have Hun := Lib.hid hun
  have HB1 := Lib.hid (HW0.out.trans (hb1.mono HW0.out.size))
  have HC1 := Lib.hid (HC0.out.below hb1 HC0.out.lt)
  have HO1 : Hid (RowsOwn (W1.alloc (.cells #[.int .i64 uc, .int .i64 ua] 28)) W0.heap.size v1 (ofF gs fs k)) := Lib.hid (ho1.below ((Below.refl _ _).alloc (Nat.le_refl _) _) rfl)
  have HB2 : Hid (Below w.heap.size w (W1.alloc (.cells #[.int .i64 uc, .int .i64 ua] 28))) := Lib.hid (HB1.out.alloc HB1.out.size _)
  have HF2 : Hid (Blk (W1.alloc (.cells #[.int .i64 uc, .int .i64 ua] 28)) W1.heap.size 28 #[.int .i64 uc, .int .i64 ua]) := Lib.hid (Blk.new _ _ _)
  have HC2 := Lib.hid (HC1.out.alloc (.cells #[.int .i64 uc, .int .i64 ua] 28))
  clear hun ho1 hb1 c0 c1 HU0 HC0
  go_upto_region 2 with fail
  generalize W1.alloc (.cells #[.int .i64 uc, .int .i64 ua] 28) = W2 at *
  generalize W1.heap.size = g6 at *
  have c0 := HC2.out.cell 0
  have c1 := HC2.out.cell 1
  have HU2 := Lib.hid (HU.out.later HB2.out)
  go_wp2_with fail
  refine (RClashOf_any gv _ gs fs k W2 Hk.out HU2.out).mono ?_
  rintro e W3 ⟨v3, rfl, ho3, hb3⟩
  rw [Hun.out]
  have HB3 := Lib.hid (HB2.out.trans (hb3.mono HB2.out.size))
  have HO1' := Lib.hid (HO1.out.below hb3 rfl)
  have HF3 := Lib.hid (HF2.out.below hb3 HF2.out.lt)
  have HF4 := Lib.hid (HF3.out.alloc (.cells #[.int .i64 uc, .int .i64 ua] 28))
  have HG4 : Hid (Blk (W3.alloc (.cells #[.int .i64 uc, .int .i64 ua] 28)) W3.heap.size 28 #[.int .i64 uc, .int .i64 ua]) := Lib.hid (Blk.new _ _ _)
  have HB4 : Hid (Below w.heap.size w (W3.alloc (.cells #[.int .i64 uc, .int .i64 ua] 28))) := Lib.hid (HB3.out.alloc HB3.out.size _)
  have HI1 : Hid (RowsAt (W3.alloc (.cells #[.int .i64 uc, .int .i64 ua] 28)) (W3.alloc (.cells #[.int .i64 uc, .int .i64 ua] 28)).heap.size v1 (ofF gs fs k)) := Lib.hid (RowsOwn.rows (HO1'.out.below ((Below.refl _ _).alloc (Nat.le_refl _) _) rfl))
  have HI3 : Hid (RowsAt (W3.alloc (.cells #[.int .i64 uc, .int .i64 ua] 28)) (W3.alloc (.cells #[.int .i64 uc, .int .i64 ua] 28)).heap.size v3 (ofF gs fs k)) := Lib.hid (RowsOwn.rows (ho3.below ((Below.refl _ _).alloc (Nat.le_refl _) _) rfl))
  clear ho3 hb3 c0 c1 HU2 HC2 HF2
  go_upto_region 3 with fail
  generalize W3.alloc (.cells #[.int .i64 uc, .int .i64 ua] 28) = W4 at *
  generalize W3.heap.size = g8 at *
  go_wp2_with fail
  refine (Rows_any v1 v3 _ _ W4 HI1.out HI3.out).mono ?_
  rintro e W5 ⟨rfl, hb5⟩
  rw [decide_eq_true rfl]
  have HB5 := Lib.hid (HB4.out.trans (hb5.mono HB4.out.size))
  have x0 := (HF4.out.below hb5 HF4.out.lt).cell 0
  have x1 := (HF4.out.below hb5 HF4.out.lt).cell 1
  have y0 := (HG4.out.below hb5 HG4.out.lt).cell 0
  have y1 := (HG4.out.below hb5 HG4.out.lt).cell 1
  have heq := fun W => eqFault uc ua uc ua W
  clear hb5
  go_wp2_with fail
  go_ret
  exact ⟨ret_bool (by simp), HB5.out⟩
end Go.Proofs.YtgnkkgbjcodihaaDoor
