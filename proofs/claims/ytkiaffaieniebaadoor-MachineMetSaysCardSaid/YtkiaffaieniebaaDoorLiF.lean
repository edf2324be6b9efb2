/-
  Several texts in one (LiE LiF): what each proves stands at its theorems.
  Conditions: as the theorems say.
-/
import Derived.Test.YtkiaffaieniebaaDoorLiD
namespace Go.Proofs.YtkiaffaieniebaaDoor
open Go.RowKit

/-- A row of another element type than the written row's stands. -/
theorem row_grown {w w' : World} {base : Nat} {e : TypeId} {size : Nat} {v : Value} {n0 : Nat} {xs0 : List Value} (hg : w.grownBy w' v.ownBlock) (ho : w.ownsRow base e size v n0 xs0)
    {g : Nat} {t : TypeId} {n : Nat} {f : Nat → Value} (hb : w.rowIs g t n f) (hne : e ≠ t) : w'.rowIs g t n f := by
  obtain ⟨cs, hcs, h2⟩ := id hb
  have : Blk w g t cs := hcs
  exact hb.of_block ((grown_blk hg ho this hne).trans hcs.symm)
/-- The grid that MacLive fills: block g holds the rows' values; each row is the call's own, no two in one block. -/
structure GridOk (w : World) (base g n : Nat) (R : Nat → Value) (F : Nat → List Int) : Prop where
  row : w.rowIs g 26 n R
  own : ∀ i, i < n → OwnInts w base (R i) (F i)
  apart : ∀ i j, i < n → j < n → i ≠ j → ∀ k, (R i).ownBlock = some k → (R j).ownBlock ≠ some k
theorem GridOk.congr {w : World} {base g n : Nat} {R : Nat → Value} {F F' : Nat → List Int} (h : GridOk w base g n R F) (e : ∀ i, i < n → F i = F' i) : GridOk w base g n R F' :=
  ⟨h.row, fun i hi => by rw [← e i hi]; exact h.own i hi, h.apart⟩
theorem GridOk.below {w w' : World} {base g n B : Nat} {R : Nat → Value} {F : Nat → List Int} (h : GridOk w base g n R F) (hb : Below B w w') (hB : B = w.heap.size) : GridOk w' base g n R F :=
  ⟨row_below h.row hb (by have := h.row.lt; omega), fun i hi => (h.own i hi).below hb hB, h.apart⟩
theorem GridOk.step {w w' : World} {base g n q H : Nat} {R : Nat → Value} {F : Nat → List Int} {v' : Value} {x : Int} (h : GridOk w base g n R F) (hq : q < n) (hg : g < base) (hH : w.heap.size ≤ H)
    (ha : Appended w base 3 1 (R q) ((F q).length + 1) ((F q).map (Value.int .i64) ++ [.int .i64 x]) H v' w') :
    GridOk (w'.setCell ⟨g, q, none⟩ v') base g n (fun j => if j = q then v' else R j) (fun j => if j = q then F q ++ [x] else F j) := by
  have hrow : w'.rowIs g 26 n R := row_grown ha.2.2.1 (h.own q hq) h.row (by decide)
  have keep : ∀ j, j < n → j ≠ q → OwnInts w' base (R j) (F j) := fun j hj hne => ha.row (v0 := R j) (h.own j hj) fun k hk => h.apart j q hj hq hne k hk
  have hnew : OwnInts w' base v' (F q ++ [x]) := OwnInts.snoc ha.own
  refine ⟨hrow.set q v', fun i hi => ?_, fun i j hi hj hne k hk => ?_⟩
  · by_cases e : i = q
    · simp only [if_pos e]
      exact hnew.set hg v'
    · simp only [if_neg e]
      exact (keep i hi e).set hg v'
  · have lt : ∀ j, j < n → ∀ k, (R j).ownBlock = some k → k < w.heap.size := fun j hj k hk => (World.ownsRow.lt (h.own j hj) k hk).2
    by_cases e : i = q
    · rw [if_pos e] at hk
      have e2 : j ≠ q := by omega
      rw [if_neg e2]
      rcases ha.2.2.2 with h1 | h1
      · rw [h1] at hk
        exact h.apart q j hq hj (by omega) k hk
      · rw [h1] at hk
        cases hk
        intro h2
        have := lt j hj _ h2
        omega
    · rw [if_neg e] at hk
      by_cases e2 : j = q
      · rw [if_pos e2]
        rcases ha.2.2.2 with h1 | h1
        · rw [h1]
          exact h.apart i q hi hq e k hk
        · rw [h1]
          have := lt i hi _ hk
          intro h2
          cases h2
          omega
      · rw [if_neg e2]
        exact h.apart i j hi hj hne k hk

end Go.Proofs.YtkiaffaieniebaaDoor
namespace Go.Proofs.YtkiaffaieniebaaDoor
open Go.RowKit
attribute [local go_sem ↓] Go.wp_at_zero Go.wp_at_succ

set_option maxRecDepth 100000 in
set_option maxHeartbeats 2000000 in
theorem Rows_any (v1 v2 : Value) (xss yss : List (List Int)) (w : World) (h1 : RowsAt w w.heap.size v1 xss) (h2 : RowsAt w w.heap.size v2 yss) :
    Calls Tryd.prog 20 #[v1, v2] w fun e w' => e = .returned (.bool (decide (xss = yss))) ∧ Below w.heap.size w w' := by
  obtain ⟨A1, c1, rfl, hl1, hm1, hc1⟩ := h1
  obtain ⟨A2, c2, rfl, hl2, hm2, hc2⟩ := h2
  by_cases hne : xss.length = yss.length
  · obtain ⟨len, hlen⟩ : ∃ len, xss.length = len := ⟨_, rfl⟩
    have HN := Lib.hid (And.intro hlen (hne.symm.trans hlen))
    rw [hlen] at hl1 hc1 ⊢
    rw [hne.symm.trans hlen] at hl2 hc2 ⊢
    have HC1 := Lib.hid hc1
    have HC2 := Lib.hid hc2
    clear hne hlen hc1 hc2
    go_enter Tryd.func20, Tryd.ntmps20
    go_wp2_with fail
    go_loopw [5] (fun i wr => ∃ k : Nat, k ≤ len ∧ i = .int .i64 k ∧ Hid (∀ j, j < k → xss[j]? = yss[j]?) ∧ Hid (Below w.heap.size w wr)) (fun i _ => len - (intOf i).toNat)
    case atStart => exact ⟨0, Nat.zero_le _, rfl, Lib.hid (fun j h => absurd h (Nat.not_lt_zero j)), Lib.hid (Below.refl _ _)⟩
    case round =>
      obtain ⟨k, hk, rfl, HF, HB⟩ := hrel
      by_cases hlt : k < len
      · obtain ⟨b1, off1, hA1, hb1, hcc1⟩ := HC1.out (by omega)
        obtain ⟨b2, off2, hA2, hb2, hcc2⟩ := HC2.out (by omega)
        subst hA1
        subst hA2
        obtain ⟨xs, hx⟩ : ∃ xs, xss[k]? = some xs := ⟨xss[k]'(by rw [HN.out.1]; exact hlt), List.getElem?_eq_getElem _⟩
        obtain ⟨ys, hy⟩ : ∃ ys, yss[k]? = some ys := ⟨yss[k]'(by rw [HN.out.2]; exact hlt), List.getElem?_eq_getElem _⟩
        obtain ⟨r1, hr1, hi1⟩ := hcc1 k xs hx
        obtain ⟨r2, hr2, hi2⟩ := hcc2 k ys hy
        have Hx := Lib.hid hx
        have Hy := Lib.hid hy
        have HI := Lib.hid (And.intro ((hi1.below HB.out (Nat.le_refl _)).more HB.out.size) ((hi2.below HB.out (Nat.le_refl _)).more HB.out.size))
        have d1 : wr.cell? ⟨b1, off1 + k, none⟩ = some r1 := (bcell HB.out hb1).trans hr1
        have d2 : wr.cell? ⟨b2, off2 + k, none⟩ = some r2 := (bcell HB.out hb2).trans hr2
        have hk0 : (0 : Int) ≤ (k : Int) := Int.natCast_nonneg _
        have hk1 : (k : Int) < (len : Int) := by omega
        clear hx hy hcc1 hcc2 hr1 hr2 hi1 hi2
        go_upto_region 6 with fail
        go_cut [26] (fun s wx => s = .bool (!decide (xs = ys)) ∧ Hid (Below w.heap.size w wx))
        case first =>
          go_region_held3 (fun w' => w'.cell? ⟨b1, off1 + k, none⟩ = some r1 ∧ w'.cell? ⟨b2, off2 + k, none⟩ = some r2) (first | go_keep | (go_split_ands; refine ⟨?_, ?_⟩ <;> assumption))
            ((go_at_call 24; refine (Ints_any r1 r2 xs ys _ ?_ ?_).mono ?_; (exact HI.out.1); (exact HI.out.2); rintro e w3 ⟨rfl, hb3⟩; have HB3 : Hid (Below w.heap.size w w3) := Lib.hid (by first | exact HB.out.trans (hb3.mono HB.out.size) | exact (below_drew HB.out).trans (hb3.mono HB.out.size)); have d1 : w3.cell? ⟨b1, off1 + k, none⟩ = some r1 := (bcell HB3.out hb1).trans ((bcell HB.out hb1).symm.trans d1); have d2 : w3.cell? ⟨b2, off2 + k, none⟩ = some r2 := (bcell HB3.out hb2).trans ((bcell HB.out hb2).symm.trans d2); clear hb3))
          all_goals
            go_wp2_with fail
            go_meet
            first | exact ⟨rfl, HB3⟩ | exact ⟨rfl, Lib.hid (below_drew HB3.out)⟩
        case rest =>
          obtain ⟨rfl, HB2⟩ := hcut
          by_cases he : xs = ys
          · have hd : decide (xs = ys) = true := by simp [he]
            have He := Lib.hid he
            rw [hd]
            clear he hd
            go_wp2_with fail
            go_roundw
            case rel =>
              refine ⟨k + 1, by omega, by go_num, Lib.hid fun j hj => ?_, HB2⟩
              rcases Nat.lt_or_ge j k with h | h
              · exact HF.out j h
              · obtain rfl : j = k := by omega
                rw [Hx.out, Hy.out, He.out]
            case measure => simp [intOf]; omega
          · have hd : decide (xs = ys) = false := by simp [he]
            have He := Lib.hid he
            rw [hd]
            clear he hd
            go_wp2_with fail
            go_ret
            exact ⟨ret_bool (by symm; apply decide_eq_false; intro h; apply He.out; have h1 := Hx.out; rw [h, Hy.out] at h1; cases h1; rfl), HB2.out⟩
      · obtain rfl : k = len := by omega
        go_wp2_with fail
        go_ret
        refine ⟨ret_bool (by symm; apply decide_eq_true; apply List.ext_getElem?; intro j; rcases Nat.lt_or_ge j k with h | h; exact HF.out j h; rw [List.getElem?_eq_none (by rw [HN.out.1]; exact h), List.getElem?_eq_none (by rw [HN.out.2]; exact h)]), HB.out⟩
  · have hb : ((xss.length : Int) != (yss.length : Int)) = true := by simp; omega
    go_enter Tryd.func20, Tryd.ntmps20
    go_wp2_with fail
    go_ret
    exact ⟨ret_bool (by symm; apply decide_eq_false; intro h; apply hne; rw [h]), Below.refl _ _⟩

end Go.Proofs.YtkiaffaieniebaaDoor
