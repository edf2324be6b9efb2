/-
  Slices of slices of numbers; contract of mac.Live.
  Conditions: the slice reads as instructions; the table shapes lies as its initialiser lays it.
-/
import Derived.Test.YtkecgobbklmeaaaDoorLiC
import Derived.Test.YtkecgobbklmeaaaDoorByH
namespace Go.Proofs.YtkecgobbklmeaaaDoor
open Go.RowKit

theorem infoRow : (Tryd.prog.info? 29).map (fun i => (i.zero, i.size, i.bytes)) = some (some (.slice none 0 0), 1, 24) := by kernel_rfl
/-- The slice value v reads as lists of numbers, below block B. -/
def RowsAt (w : World) (B : Nat) (v : Value) (xss : List (List Int)) : Prop :=
  ∃ (A : Option Addr) (c : Nat), v = .slice A xss.length c ∧ xss.length ≤ c ∧ c ≤ 9223372036854775807 ∧
    (0 < xss.length → ∃ b off, A = some ⟨b, off, none⟩ ∧ b < B ∧ ∀ (k : Nat) (xs : List Int), xss[k]? = some xs → ∃ r, w.cell? ⟨b, off + k, none⟩ = some r ∧ IntsAt w B r xs)
theorem RowsAt.below {W w1 : World} {B B' : Nat} {v : Value} {xss : List (List Int)} (h : RowsAt W B v xss) (hb : Below B' W w1) (hB : B ≤ B') : RowsAt w1 B v xss := by
  obtain ⟨A, c, e, h1, h2, h3⟩ := h
  refine ⟨A, c, e, h1, h2, fun hl => ?_⟩
  obtain ⟨b, off, e1, e2, e3⟩ := h3 hl
  refine ⟨b, off, e1, e2, fun k m hk => ?_⟩
  obtain ⟨r, hr, hi⟩ := e3 k m hk
  exact ⟨r, (bcell hb (Nat.lt_of_lt_of_le e2 hB)).trans hr, hi.below hb hB⟩
theorem RowsAt.more {w : World} {B B' : Nat} {v : Value} {xss : List (List Int)} (h : RowsAt w B v xss) (hB : B ≤ B') : RowsAt w B' v xss := by
  obtain ⟨A, c, e, h1, h2, h3⟩ := h
  refine ⟨A, c, e, h1, h2, fun hl => ?_⟩
  obtain ⟨b, off, e1, e2, e3⟩ := h3 hl
  refine ⟨b, off, e1, by omega, fun k m hk => ?_⟩
  obtain ⟨r, hr, hi⟩ := e3 k m hk
  exact ⟨r, hr, hi.more hB⟩
theorem RowsAt.nil (w : World) (B : Nat) : RowsAt w B (.slice none 0 0) [] := ⟨none, 0, rfl, by simp, by omega, fun h => by simp at h⟩
/-- Rows of different element types lie in different blocks. -/
theorem own_apart {w : World} {base base' : Nat} {e e' : TypeId} {size size' n n' : Nat} {v v' : Value} {xs xs' : List Value} (h : w.ownsRow base e size v n xs) (h' : w.ownsRow base' e' size' v' n' xs') (hne : e ≠ e') : ∀ k, v.ownBlock = some k → v'.ownBlock ≠ some k := by
  intro k hk hk'
  rcases h.2 with ⟨rfl, _⟩ | ⟨g, cap, cur, rfl, _, hg, _⟩
  · simp [Value.ownBlock] at hk
  rcases h'.2 with ⟨rfl, _⟩ | ⟨g', cap', cur', rfl, _, hg', _⟩
  · simp [Value.ownBlock] at hk'
  simp only [Value.ownBlock, Option.some.injEq] at hk hk'
  subst hk
  subst hk'
  rw [hg] at hg'
  simp only [Option.some.injEq, Obj.cells.injEq] at hg'
  exact hne hg'.2.1
/-- The call owns the slice v, which reads as lists of numbers, whose rows it owns, too. -/
def RowsOwn (w : World) (base : Nat) (v : Value) (xss : List (List Int)) : Prop :=
  ∃ rs : List Value, rs.length = xss.length ∧ w.ownsRow base 29 1 v rs.length rs ∧ ∀ (i : Nat) (r : Value) (xs : List Int), rs[i]? = some r → xss[i]? = some xs → OwnInts w base r xs
theorem RowsOwn.nil (w : World) (base : Nat) : RowsOwn w base (.slice none 0 0) [] := ⟨[], rfl, World.ownsRow_nil _ _ _ _, fun i r xs h _ => by simp at h⟩
theorem RowsOwn.below {w w' : World} {base B : Nat} {v : Value} {xss : List (List Int)} (h : RowsOwn w base v xss) (hb : Below B w w') (hB : B = w.heap.size) : RowsOwn w' base v xss := by
  obtain ⟨rs, h1, h2, h3⟩ := h
  refine ⟨rs, h1, ?_, fun i r xs hr hx => (h3 i r xs hr hx).below hb hB⟩
  refine World.ownsRow.kept (row := none) h2 ⟨hb.os, hb.tape, hb.output, hb.size, fun k hk _ => hb.block k (by omega)⟩ ?_
  cases v.ownBlock <;> simp
theorem RowsOwn.rows {w : World} {base : Nat} {v : Value} {xss : List (List Int)} (h : RowsOwn w base v xss) : RowsAt w w.heap.size v xss := by
  obtain ⟨rs, h1, h2, h3⟩ := h
  rcases h2.2 with ⟨rfl, hn⟩ | ⟨g, cap, cur, rfl, _, hgg, hnc, hcm, _, _⟩
  · have : xss = [] := List.eq_nil_of_length_eq_zero (by omega)
    subst this
    exact RowsAt.nil _ _
  · refine ⟨some ⟨g, 0, none⟩, cap, by rw [h1], by omega, by unfold maxLen at hcm; omega, fun _ => ⟨g, 0, rfl, (World.ownsRow.lt h2 g rfl).2, fun k xs hk => ?_⟩⟩
    have hkl : k < rs.length := by have := (List.getElem?_eq_some_iff.1 hk).1; omega
    have hc := World.ownsRow.cells h2 (g := g) rfl k rs[k] (List.getElem?_eq_getElem hkl)
    have e : (⟨g, 0, none⟩ : Addr).add k = ⟨g, 0 + k, none⟩ := by
      unfold Addr.add
      split <;> simp_all
    rw [e] at hc
    exact ⟨_, hc, (h3 k _ xs (List.getElem?_eq_getElem hkl) hk).ints⟩
theorem own_oneCell {w : World} {base : Nat} {v : Value} {xs : List Int} (h : OwnInts w base v xs) : v.oneCell' = true := by
  obtain ⟨A, c, rfl⟩ := own_form h
  rfl
theorem RowsOwn.snoc {w w' : World} {base : Nat} {v v' r : Value} {xss : List (List Int)} {xs : List Int} {rs : List Value} {H : Nat} (h1 : rs.length = xss.length) (h2 : w.ownsRow base 29 1 v rs.length rs)
    (h3 : ∀ (i : Nat) (r : Value) (xs : List Int), rs[i]? = some r → xss[i]? = some xs → OwnInts w base r xs) (hr : OwnInts w base r xs) (ha : Appended w base 29 1 v (rs.length + 1) (rs ++ [r]) H v' w') : RowsOwn w' base v' (xss ++ [xs]) := by
  have keep : ∀ (q : Value) (ys : List Int), OwnInts w base q ys → OwnInts w' base q ys := fun q ys hq =>
    ha.row (v0 := q) hq fun k hk => own_apart (e' := 29) hq h2 (by decide) k hk
  refine ⟨rs ++ [r], by simp [h1], by rw [List.length_append]; exact ha.own, fun i q ys hq hy => ?_⟩
  rcases Nat.lt_or_ge i rs.length with hi | hi
  · rw [List.getElem?_append_left hi] at hq
    rw [List.getElem?_append_left (by omega)] at hy
    exact keep q ys (h3 i q ys hq hy)
  · rw [List.getElem?_append_right hi] at hq
    rw [List.getElem?_append_right (by omega)] at hy
    rcases Nat.eq_or_lt_of_le hi with he | he
    · rw [← he, Nat.sub_self] at hq
      rw [← he, h1, Nat.sub_self] at hy
      simp only [List.getElem?_cons_zero, Option.some.injEq] at hq hy
      subst hq
      subst hy
      exact keep _ _ hr
    · rw [List.getElem?_eq_none (by simp; omega)] at hq
      cases hq

/-- What a function that tells live registers comes to. -/
def RowsPost (w : World) (f : Int × Int) (xss : List (List Int)) (e : Ending) (w' : World) : Prop :=
  ∃ v, e = .returned (.tuple #[v, .agg #[.int .i64 f.1, .int .i64 f.2]]) ∧ RowsAt w' w'.heap.size v xss ∧ Below w.heap.size w w'
/-- The live registers, ahead of each instruction. -/
noncomputable def liveTo (ms : List Mac) (k : Nat) : List (List Int) := (List.range k).map fun i => listP (fun r => liveB ms r i) 16
noncomputable def liveL (ms : List Mac) : List (List Int) := if (checkS ms).1 = 0 then liveTo ms ms.length else []
theorem liveTo_succ (ms : List Mac) (k : Nat) : liveTo ms (k + 1) = liveTo ms k ++ [listP (fun r => liveB ms r k) 16] := by
  unfold liveTo
  rw [List.range_succ, List.map_append]
  rfl
theorem liveTo_len (ms : List Mac) (k : Nat) : (liveTo ms k).length = k := by unfold liveTo; simp
theorem RowsOwn.set {w : World} {base : Nat} {v : Value} {xss : List (List Int)} (h : RowsOwn w base v xss) {b o : Nat} (hb : b < base) (u : Value) : RowsOwn (w.setCell ⟨b, o, none⟩ u) base v xss := by
  obtain ⟨rs, h1, h2, h3⟩ := h
  exact ⟨rs, h1, ownsRow_setCell_below (a := ⟨b, o, none⟩) h2 hb u, fun i r xs hr hx => (h3 i r xs hr hx).set hb u⟩

set_option maxRecDepth 100000 in
set_option maxHeartbeats 2000000 in
theorem Live_any (v : Value) (ms : List Mac) (w : World) (hv : MacsAt w w.heap.size v ms) (ht : Tab w) :
    Calls Tryd.prog 37 #[v] w (RowsPost w (checkS ms) (liveL ms)) := by
  have HV := Lib.hid hv
  have HT := Lib.hid ht
  have hA : Below w.heap.size w (w.alloc (.cells #[.int .i64 0, .int .i64 0] 24)) := (Below.refl _ _).alloc (Nat.le_refl _) _
  have HC := Lib.hid (Check_any v ms (w.alloc (.cells #[.int .i64 0, .int .i64 0] 24)) ((HV.out.below hA (Nat.le_refl _)).more (by simp)) (HT.out.own hA))
  clear hv ht hA
  by_cases hf : (checkS ms).1 = 0
  · have hf0 : ((checkS ms).1 != 0) = false := by simp [hf]
    have Hf := Lib.hid hf
    have HZ : Hid (checkS ms = (0, 0)) := Lib.hid (check_zero hf)
    have hl5 := ((code_ok_iff ms).1 hf).1
    clear hf
    go_enter Tryd.func37, Tryd.ntmps37
    go_wp2_with fail
    refine HC.out.mono ?_
    rintro e w1 ⟨rfl, hb1⟩
    have hz : w.heap.size < w1.heap.size := by have := hb1.size; simp at this; omega
    have h0 := (Blk.new w 24 #[.int .i64 0, .int .i64 0]).below hb1 (by simp)
    have HK1 := Lib.hid (h0.alloc (.cells #[.int .i64 (checkS ms).1, .int .i64 (checkS ms).2] 24))
    have HB1 : Hid (Below w.heap.size w (w1.alloc (.cells #[.int .i64 (checkS ms).1, .int .i64 (checkS ms).2] 24))) := Lib.hid ((((Below.refl _ _).alloc (Nat.le_refl _) _).trans (hb1.mono (by simp))).alloc (by omega) _)
    clear hb1 h0
    go_wp2_with fail
    generalize w1.alloc (.cells #[.int .i64 (checkS ms).1, .int .i64 (checkS ms).2] 24) = W1 at *
    refine (live_any v ms _ ((HV.out.below HB1.out (Nat.le_refl _)).more HB1.out.size) (HT.out.own HB1.out) Hf.out).mono ?_
    rintro e w2 ⟨g, S, rfl, hrow, hg, hb2, hS⟩
    have hz2 : w.heap.size < W1.heap.size := HK1.out.lt
    have HK2 := Lib.hid (HK1.out.below hb2 HK1.out.lt)
    have HB2 := Lib.hid (HB1.out.trans (hb2.mono HB1.out.size))
    have HRow := Lib.hid hrow
    have HS := Lib.hid hS
    have hgl := hrow.lt
    clear hb2 hrow hS
    obtain ⟨len, hlen⟩ : ∃ len, ms.length = len := ⟨_, rfl⟩
    have HL := Lib.hid hlen
    rw [hlen] at HRow HS hl5 ⊢
    clear hlen
    go_wp2_with fail
    go_loopw [5, 17] (fun v i wr => ∃ k : Nat, k ≤ len ∧ i = .int .i64 k ∧ Hid (Below w2.heap.size w2 wr) ∧ Hid (RowsOwn wr w2.heap.size v (liveTo ms k))) (fun _ i _ => len - (intOf i).toNat)
    case atStart => exact ⟨0, Nat.zero_le _, rfl, Lib.hid (Below.refl _ _), Lib.hid (RowsOwn.nil _ _)⟩
    case round =>
      obtain ⟨k, hk, rfl, HB, HO⟩ := hrel
      by_cases hlt : k < len
      · have cs := (row_below HRow.out HB.out hgl).cell hlt
        have hbits := HS.out k hlt
        have HBi := Lib.hid hbits
        have hzr := HB.out.size
        clear hbits
        go_wp2_with fail
        refine (list_any (S k) HBi.out.1 _).mono ?_
        rintro e w3 ⟨r, rfl, ho3, hb3⟩
        obtain ⟨Ar, cr, hre⟩ := own_form ho3
        subst hre
        obtain ⟨rs, hr1, hr2, hr3⟩ := HO.out.below hb3 rfl
        have HR2 := Lib.hid hr2
        have HR3 := Lib.hid (And.intro hr1 hr3)
        have HO3 := Lib.hid (ho3.more hzr)
        have HB3 := Lib.hid (HB.out.trans (hb3.mono hzr))
        have hz3 : w2.heap.size ≤ w3.heap.size := HB3.out.size
        have hrl : rs.length ≤ 5000 := by rw [hr1, liveTo_len]; omega
        clear hb3 ho3 hr1 hr2 hr3 cs
        go_wp2_with (at_builtin; refine app_one rfl _ _ 43 29 rfl (.slice none 0 0) 1 24 Tryd.underlying43 infoRow rfl (by decide) (by decide) w2.heap.size u5 _ _ (by rfl) HR2.out _ [.slice Ar _ cr] (by rfl) rfl (fun x hx => by simp at hx; subst hx; exact own_oneCell HO3.out) rfl (by omega) hz3 ?_; intro v4 w4 HA4)
        go_roundw
        case rel =>
          refine ⟨k + 1, by omega, by go_num, Lib.hid (HB3.out.trans HA4.out.below), Lib.hid ?_⟩
          rw [liveTo_succ, ← bitsTo_eq HBi.out]
          exact RowsOwn.snoc HR3.out.1 HR2.out HR3.out.2 HO3.out HA4.out
        case measure => simp [intOf]; omega
      · obtain rfl : k = len := by omega
        have hk2 := HK2.out.below HB.out (by have := HK2.out.lt; omega)
        have r0 := hk2.cell 0
        have r1 := hk2.cell 1
        have f0 := hk2.frozen 0
        have f1 := hk2.frozen 1
        have HK3 := Lib.hid hk2
        have HB3 := Lib.hid (HB2.out.trans (HB.out.mono HB2.out.size))
        have hlt2 := HK2.out.lt
        clear hk2
        go_wp2_with fail
        refine end_tmp_cell rfl rfl (HK3.out.set2 _ _) Tryd.underlying24 rfl (by kernel_rfl) rfl ⟨_, by rw [HZ.out], ?_, (HB3.out.setCell (Nat.le_refl _) _).setCell (Nat.le_refl _) _⟩
        unfold liveL
        rw [if_pos Hf.out, HL.out]
        exact ((HO.out.set hlt2 _).set hlt2 _).rows
  · have hf0 : ((checkS ms).1 != 0) = true := by simp [hf]
    have HL : Hid (liveL ms = []) := Lib.hid (by unfold liveL; rw [if_neg hf])
    clear hf
    go_enter Tryd.func37, Tryd.ntmps37
    go_wp2_with fail
    refine HC.out.mono ?_
    rintro e w1 ⟨rfl, hb1⟩
    have hz : w.heap.size < w1.heap.size := by have := hb1.size; simp at this; omega
    have h0 := (Blk.new w 24 #[.int .i64 0, .int .i64 0]).below hb1 (by simp)
    have r0 := h0.cell 0
    have r1 := h0.cell 1
    have f0 := h0.frozen 0
    have f1 := h0.frozen 1
    have HB1 : Hid (Below w.heap.size w w1) := Lib.hid (((Below.refl _ _).alloc (Nat.le_refl _) _).trans (hb1.mono (by simp)))
    have HK1 := Lib.hid h0
    clear hb1 h0
    go_wp2_with fail
    go_region
    all_goals
      go_wp2_with fail
      refine end_tmp_cell rfl rfl (Blk.alloc (HK1.out.set2 _ _) _) Tryd.underlying24 rfl (by kernel_rfl) rfl ⟨_, rfl, ?_, below_drew (Below.alloc (((HB1.out.setCell (by simp) _).setCell (by simp) _)) (by simp; omega) _)⟩
      rw [HL.out]
      exact RowsAt.nil _ _
end Go.Proofs.YtkecgobbklmeaaaDoor
