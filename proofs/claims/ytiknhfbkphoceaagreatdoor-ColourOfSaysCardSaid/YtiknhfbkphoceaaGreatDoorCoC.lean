/-
  slices.SortStableFunc of a row of numbers: it leaves them in order.
  Conditions: the order that is asked for reads only.
-/
import Derived.Test.YtiknhfbkphoceaaGreatDoorSoP
namespace Go.Proofs.YtiknhfbkphoceaaGreatDoor
open Go.RowKit

theorem swap_perm {l : List Int} {i j : Nat} {a b : Int} (hi : l[i]? = some a) (hj : l[j]? = some b) : ((l.set i b).set j a).Perm l := by
  rw [List.perm_iff_count]
  intro z
  obtain ⟨i1, i2⟩ := List.getElem?_eq_some_iff.1 hi
  obtain ⟨j1, j2⟩ := List.getElem?_eq_some_iff.1 hj
  have hc1 : ∀ x, x ∈ l → 0 < l.count x := fun x hx => List.count_pos_iff.2 hx
  have ha := hc1 a (i2 ▸ List.getElem_mem i1)
  have hb := hc1 b (j2 ▸ List.getElem_mem j1)
  rw [List.count_set (h := by rw [List.length_set]; exact j1), List.count_set (h := i1), List.getElem_set, i2, j2]
  by_cases hij : i = j
  · subst hij
    have hab : a = b := i2.symm.trans j2
    subst hab
    rw [if_pos rfl]
    by_cases hz : a = z
    · subst hz; simp; omega
    · simp [hz]
  · rw [if_neg hij]
    by_cases hz : a = z
    · subst hz
      by_cases hz2 : b = a
      · subst hz2; simp; omega
      · simp [hz2]; omega
    · by_cases hz2 : b = z
      · subst hz2; simp [hz]
      · simp [hz, hz2]
/-- A row that is being sorted: the call owns it, and nothing else that stood has changed. -/
structure SortNow (W0 W : World) (base g c n : Nat) (xs : List Int) : Prop where
  own : OwnInts W base (.slice (some ⟨g, 0, none⟩) n c) xs
  but : BelowBut g W0.heap.size W0 W
  len : xs.length = n
section
variable {W0 W W' : World} {base g c n i j : Nat} {xs : List Int} {a b : Int}
theorem SortNow.drewN (h : SortNow W0 W base g c n xs) (m : Nat) : SortNow W0 (W.drewN m) base g c n xs := ⟨h.own, ⟨h.but.os, h.but.tape, h.but.output, h.but.size, h.but.block⟩, h.len⟩
theorem SortNow.row (h : SortNow W0 W base g c n xs) : W.ownsRow base 3 1 (.slice (some ⟨g, 0, none⟩) n c) n (xs.map (Value.int .i64)) := by
  have := h.own
  unfold OwnInts at this
  rwa [h.len] at this
theorem SortNow.cell (h : SortNow W0 W base g c n xs) (hi : xs[i]? = some a) : W.cell? ⟨g, i, none⟩ = some (.int .i64 a) := row_cell h.row (by rw [List.getElem?_map, hi]; rfl)
theorem SortNow.frozen (h : SortNow W0 W base g c n xs) (i : Nat) : W.frozen? ⟨g, i, none⟩ = false := World.ownsRow.frozenAt h.row i
theorem SortNow.swap (h : SortNow W0 W base g c n xs) (i j : Nat) (a b : Int) : SortNow W0 ((W.setCell ⟨g, i, none⟩ (.int .i64 b)).setCell ⟨g, j, none⟩ (.int .i64 a)) base g c n ((xs.set i b).set j a) := by
  refine ⟨?_, h.but.trans ((BelowBut.set g _ W i _).trans (BelowBut.set g _ _ j _)), by rw [List.length_set, List.length_set, h.len]⟩
  have h1 := ((h.row.stored i (.int .i64 b)).1.stored j (.int .i64 a)).1
  unfold OwnInts
  rw [List.length_set, List.length_set, h.len, List.map_set, List.map_set]
  exact h1
theorem SortNow.mid (h : SortNow W0 W base g c n xs) (i : Nat) (u : Int) (hj : j < n) : ∃ v, (W.setCell ⟨g, i, none⟩ (.int .i64 u)).cell? ⟨g, j, none⟩ = some v := by
  have h1 := (h.row.stored i (.int .i64 u)).1
  have hl : j < ((xs.map (Value.int .i64)).set i (.int .i64 u)).length := by rw [List.length_set, List.length_map, h.len]; exact hj
  exact ⟨_, row_cell h1 (List.getElem?_eq_getElem hl)⟩
theorem SortNow.midz (h : SortNow W0 W base g c n xs) (i : Nat) (u : Int) (j : Nat) : (W.setCell ⟨g, i, none⟩ (.int .i64 u)).frozen? ⟨g, j, none⟩ = false := World.ownsRow.frozenAt (h.row.stored i (.int .i64 u)).1 j
end
set_option maxRecDepth 100000 in
set_option maxHeartbeats 2000000 in
theorem swapRange_any (W0 : World) (base g c n : Nat) (xs : List Int) (a b k : Nat) (fc : Value) (W : World) (h : SortNow W0 W base g c n xs) (hn : n ≤ 1000) (ha : a + k ≤ b) (hb : b + k ≤ n) :
    Calls Tryz.prog 99 #[.slice (some ⟨g, 0, none⟩) n c, .int .i64 (a : Int), .int .i64 (b : Int), .int .i64 (k : Int), fc] W fun e W' => e = .returned (.tuple #[]) ∧ ∃ ys, (ys.Perm xs ∧ ∀ t, ys[t]? = xs[swapIdx a b k t]?) ∧ SortNow W0 W' base g c n ys := by
  have HS := Lib.hid h
  clear h
  go_enter Tryz.func99, Tryz.ntmps99
  go_upto_region 1 with fail
  go_loopg [10] k (fun gk i wx => ∃ (q : Nat) (ys : List Int), q + gk = k ∧ i = .int .i64 (q : Int) ∧ Hid (ys.Perm xs ∧ ∀ t, ys[t]? = xs[swapIdx a b q t]?) ∧ Hid (SortNow W0 wx base g c n ys))
  case atStart => exact ⟨0, xs, by omega, rfl, Lib.hid ⟨List.Perm.refl _, fun t => by rw [swapIdx_zero]⟩, HS⟩
  case round =>
    obtain ⟨q, ys, hq, rfl, HP, HY⟩ := hrel
    rcases gk with _ | mk
    · have hqt : ¬ (q : Int) < (k : Int) := by omega
      have HPk : Hid (ys.Perm xs ∧ ∀ t, ys[t]? = xs[swapIdx a b k t]?) := Lib.hid (by rw [show k = q by omega]; exact HP.out)
      go_wp2_with fail
      go_end0
      exact ⟨rfl, ys, HPk.out, HY.out⟩
    · have hqt : (q : Int) < (k : Int) := by omega
      obtain ⟨x, hx⟩ : ∃ x, ys[a + q]? = some x := ⟨_, List.getElem?_eq_getElem (by rw [HY.out.len]; omega)⟩
      obtain ⟨y, hy⟩ : ∃ y, ys[b + q]? = some y := ⟨_, List.getElem?_eq_getElem (by rw [HY.out.len]; omega)⟩
      have c0 := HY.out.cell hx
      have c1 := HY.out.cell hy
      have z0 := HY.out.frozen (a + q)
      have z1 := HY.out.frozen (b + q)
      obtain ⟨v2, c2⟩ := HY.out.mid (a + q) y (show b + q < n by omega)
      have z2 := HY.out.midz (a + q) y (b + q)
      have ha0 : (0 : Int) ≤ (a : Int) + (q : Int) := by omega
      have ha1 : (a : Int) + (q : Int) < (n : Int) := by omega
      have ha2 : ((a : Int) + (q : Int)).toNat = a + q := by omega
      have hb0 : (0 : Int) ≤ (b : Int) + (q : Int) := by omega
      have hb1 : (b : Int) + (q : Int) < (n : Int) := by omega
      have hb2 : ((b : Int) + (q : Int)).toNat = b + q := by omega
      have HN : Hid (∀ m, (((ys.set (a + q) y).set (b + q) x).Perm xs ∧ ∀ t, ((ys.set (a + q) y).set (b + q) x)[t]? = xs[swapIdx a b (q + 1) t]?) ∧ SortNow W0 (((wr.setCell ⟨g, a + q, none⟩ (.int .i64 y)).setCell ⟨g, b + q, none⟩ (.int .i64 x)).drewN m) base g c n ((ys.set (a + q) y).set (b + q) x)) := Lib.hid (fun m => ⟨⟨(swap_perm hx hy).trans HP.out.1, swap_step (by omega) HP.out.2 hx hy⟩, (HY.out.swap (a + q) (b + q) x y).drewN m⟩)
      clear hx hy
      go_upto_region 3 with fail
      go_region
      all_goals
        go_wp2_with fail
        go_roundg mk
        case measure => omega
        case rel => exact ⟨q + 1, _, by omega, by go_num, Lib.hid (HN.out 1).1, Lib.hid (HN.out 1).2⟩
set_option maxRecDepth 100000 in
set_option maxHeartbeats 2000000 in
theorem rotate_any (W0 : World) (base g c n : Nat) (xs : List Int) (a m b : Nat) (fc : Value) (W : World) (h : SortNow W0 W base g c n xs) (hn : n ≤ 1000) (ham : a < m) (hmb : m < b) (hb : b ≤ n) :
    Calls Tryz.prog 81 #[.slice (some ⟨g, 0, none⟩) n c, .int .i64 (a : Int), .int .i64 (m : Int), .int .i64 (b : Int), fc] W fun e W' => e = .returned (.tuple #[]) ∧ ∃ ys, (ys.Perm xs ∧ ∀ t, ys[t]? = xs[rotIdx a m b t]?) ∧ SortNow W0 W' base g c n ys := by
  have HS := Lib.hid h
  clear h
  obtain ⟨i0, hi0⟩ : ∃ i0 : Nat, (m : Int) - (a : Int) = (i0 : Int) := ⟨m - a, by omega⟩
  obtain ⟨j0, hj0⟩ : ∃ j0 : Nat, (b : Int) - (m : Int) = (j0 : Int) := ⟨b - m, by omega⟩
  go_enter Tryz.func81, Tryz.ntmps81
  go_upto_region 2 with fail
  go_loopg [10, 11] (i0 + j0) (fun gk ui uj wx => ∃ (i j : Nat) (ys : List Int), i + j ≤ gk ∧ 0 < i ∧ 0 < j ∧ i ≤ i0 ∧ j ≤ j0 ∧ ui = .int .i64 (i : Int) ∧ uj = .int .i64 (j : Int) ∧ Hid (ys.Perm xs ∧ ∀ t, xs[rotIdx a m b t]? = ys[rotIdx (m - i) m (m + j) t]?) ∧ Hid (SortNow W0 wx base g c n ys))
  case atStart => exact ⟨i0, j0, xs, Nat.le_refl _, by omega, by omega, Nat.le_refl _, Nat.le_refl _, rfl, rfl, Lib.hid ⟨List.Perm.refl _, fun t => by rw [show m - i0 = a by omega, show m + j0 = b by omega]⟩, HS⟩
  case round =>
    obtain ⟨i, j, ys, hij, hi, hj, hii, hjj, rfl, rfl, HP, HY⟩ := hrel
    rcases gk with _ | mk
    · omega
    · obtain ⟨mi, hmi⟩ : ∃ mi : Nat, (m : Int) - (i : Int) = (mi : Int) := ⟨m - i, by omega⟩
      by_cases heq : i = j
      · subst heq
        have HSw := Lib.hid (swapRange_any W0 base g c n ys mi m i fc wr HY.out hn (by omega) (by omega))
        go_wp2_with fail
        refine HSw.out.mono ?_
        rintro e w1 ⟨rfl, zs, hp, hz⟩
        have HZ := Lib.hid (And.intro (And.intro (hp.1.trans HP.out.1) (fun t => by
          rw [hp.2, HP.out.2, rot_end (by omega), show m - i = mi by omega] : ∀ t, zs[t]? = xs[rotIdx a m b t]?)) hz)
        clear hp hz
        go_wp2_with fail
        go_end0
        exact ⟨rfl, zs, HZ.out.1, HZ.out.2⟩
      · have hne : ((i : Int) != (j : Int)) = true := by
          have : (i : Int) ≠ (j : Int) := by omega
          simpa using this
        by_cases hgt : (i : Int) > (j : Int)
        · have HSw := Lib.hid (swapRange_any W0 base g c n ys mi m j fc wr HY.out hn (by omega) (by omega))
          obtain ⟨ij, hd⟩ : ∃ ij : Nat, (i : Int) - (j : Int) = (ij : Int) := ⟨i - j, by omega⟩
          clear heq
          go_wp2_with fail
          refine HSw.out.mono ?_
          rintro e w1 ⟨rfl, zs, hp, hz⟩
          have HZ := Lib.hid (And.intro (And.intro (hp.1.trans HP.out.1) (fun t => by
            rw [hp.2, HP.out.2, rot_left (i := i) (j := j) (by omega) (by omega), show m - i = mi by omega, show m - ij = mi + j by omega] : ∀ t, xs[rotIdx a m b t]? = zs[rotIdx (m - ij) m (m + j) t]?)) hz)
          clear hp hz
          go_wp2_with fail
          go_roundg mk
          case measure => omega
          case rel => exact ⟨ij, j, zs, by omega, by omega, hj, by omega, hjj, rfl, rfl, Lib.hid HZ.out.1, Lib.hid HZ.out.2⟩
        · obtain ⟨mj, hmj⟩ : ∃ mj : Nat, (m : Int) + (j : Int) - (i : Int) = (mj : Int) := ⟨m + j - i, by omega⟩
          have HSw := Lib.hid (swapRange_any W0 base g c n ys mi mj i fc wr HY.out hn (by omega) (by omega))
          obtain ⟨ji, hd⟩ : ∃ ji : Nat, (j : Int) - (i : Int) = (ji : Int) := ⟨j - i, by omega⟩
          have Hji : Hid (0 < ji ∧ i + ji ≤ mk) := Lib.hid (by omega)
          have hlt2 : i < j := by omega
          clear heq
          go_wp2_with fail
          refine HSw.out.mono ?_
          rintro e w1 ⟨rfl, zs, hp, hz⟩
          have HZ := Lib.hid (And.intro (And.intro (hp.1.trans HP.out.1) (fun t => by
            rw [hp.2, HP.out.2, rot_right (i := i) (j := j) (by omega) (by omega), show m - i = mi by omega, show m + j - i = mj by omega, show m + ji = mj by omega] : ∀ t, xs[rotIdx a m b t]? = zs[rotIdx (m - i) m (m + ji) t]?)) hz)
          clear hp hz
          go_wp2_with fail
          go_roundg mk
          case measure => omega
          case rel => exact ⟨i, ji, zs, Hji.out.2, hi, Hji.out.1, hii, by omega, rfl, rfl, Lib.hid HZ.out.1, Lib.hid HZ.out.2⟩
/-- The order that is asked for: it reads only. -/
def AsksOnly (W0 : World) (g : Nat) (Fc : FuncId) (cap : Array Value) (xs0 : List Int) (kf : Int → Int → Int) : Prop :=
  ∀ x y W, x ∈ xs0 → y ∈ xs0 → BelowBut g W0.heap.size W0 W → Calls Tryz.prog Fc (#[.int .i64 x, .int .i64 y] ++ cap) W fun e W' => e = .returned (.int .i64 (kf x y)) ∧ ∃ m, W' = W.drewN m
theorem AsksOnly.quiet {W0 W : World} {g : Nat} {Fc : FuncId} {cap : Array Value} {xs0 : List Int} {kf : Int → Int → Int} (h : AsksOnly W0 g Fc cap xs0 kf) {x y : Int} (hx : x ∈ xs0) (hy : y ∈ xs0) (hb : BelowBut g W0.heap.size W0 W) (k : Nat) :
    Calls Tryz.prog Fc (#[.int .i64 x, .int .i64 y] ++ cap) (W.drewN k) fun e W' => e = .returned (.int .i64 (kf x y)) ∧ ∃ m, W' = (W.drewN k).drewN m :=
  h x y (W.drewN k) hx hy ⟨hb.os, hb.tape, hb.output, hb.size, hb.block⟩
set_option maxRecDepth 100000 in
set_option maxHeartbeats 4000000 in
theorem insertion_any (W0 : World) (base g c n : Nat) (xs0 xs : List Int) (a b : Nat) (Fc : FuncId) (cap : Array Value) (kf : Int → Int → Int) (W : World) (h : SortNow W0 W base g c n xs) (hx0 : ∀ x ∈ xs, x ∈ xs0) (hn : n ≤ 1000) (hb : b ≤ n) (hab : a ≤ n)
    (hc : ∀ (a : Array Value) (W : World), (callFunc Fc a).run Tryz.prog W = .ok (.enter Fc a) W) (hk : AsksOnly W0 g Fc cap xs0 kf) (w : Int → Int) (hkf : ∀ x y, kf x y < 0 ↔ w y < w x) (hasc : Seg (· < ·) xs a b) :
    Calls Tryz.prog 59 #[.slice (some ⟨g, 0, none⟩) n c, .int .i64 (a : Int), .int .i64 (b : Int), .func (.func Fc) #[] cap] W fun e W' => e = .returned (.tuple #[]) ∧ ∃ ys, (ys.Perm xs ∧ Seg (ltW w) ys a b ∧ Moved xs ys a b) ∧ SortNow W0 W' base g c n ys := by
  have HS := Lib.hid h
  have HX := Lib.hid hx0
  have HK := Lib.hid hk
  have HA := Lib.hid hasc
  have HKf := Lib.hid hkf
  clear h hx0 hk hasc hkf
  go_enter Tryz.func59, Tryz.ntmps59
  go_upto_region 1 with fail
  go_loopg [8] (n + 1) (fun gk ui wx => ∃ (i : Nat) (ys : List Int), b ≤ i + gk ∧ a < i ∧ ui = .int .i64 (i : Int) ∧ i ≤ n + 1 ∧ (i ≤ b ∨ i = a + 1) ∧ Hid (ys.Perm xs ∧ Seg (ltW w) ys a i ∧ Moved xs ys a i) ∧ Hid (SortNow W0 wx base g c n ys))
  case atStart => exact ⟨a + 1, xs, by omega, by omega, by go_num, by omega, .inr rfl, Lib.hid ⟨List.Perm.refl _, Seg.single _ _, Moved.refl _ _ _⟩, HS⟩
  case round =>
    obtain ⟨i, ys, hi, hai, rfl, hin, hib0, HP, HY⟩ := hrel
    by_cases hib : (i : Int) < (b : Int)
    · obtain ⟨mk, rfl⟩ : ∃ mk, gk = mk + 1 := ⟨gk - 1, by omega⟩
      have HY0 := HY
      go_upto_region 4 with fail
      go_loopg [9] i (fun gk uj wx => ∃ (j : Nat) (zs : List Int), j ≤ gk ∧ a ≤ j ∧ j ≤ i ∧ uj = .int .i64 (j : Int) ∧ Hid (zs.Perm xs ∧ (∀ t, zs[t]? = ys[if t = j then i else if j < t ∧ t ≤ i then t - 1 else t]?) ∧ (j = i ∨ ∀ x y, ys[j]? = some x → ys[i]? = some y → w x < w y)) ∧ Hid (SortNow W0 wx base g c n zs))
      case atStart => exact ⟨i, ys, Nat.le_refl _, by omega, Nat.le_refl _, rfl, Lib.hid ⟨HP.out.1, ins_zero ys i, .inl rfl⟩, HY⟩
      case round =>
        obtain ⟨j, zs, hj, haj, hji, rfl, HP2, HZ⟩ := hrel
        by_cases hja : (j : Int) > (a : Int)
        · obtain ⟨nk, rfl⟩ : ∃ nk, gk = nk + 1 := ⟨gk - 1, by omega⟩
          obtain ⟨j1, hj1⟩ : ∃ j1 : Nat, (j : Int) - 1 = (j1 : Int) := ⟨j - 1, by omega⟩
          obtain ⟨x, hx⟩ : ∃ x, zs[j]? = some x := ⟨_, List.getElem?_eq_getElem (by rw [HZ.out.len]; omega)⟩
          obtain ⟨y, hy⟩ : ∃ y, zs[j1]? = some y := ⟨_, List.getElem?_eq_getElem (by rw [HZ.out.len]; omega)⟩
          have c0 := HZ.out.cell hx
          have c1 := HZ.out.cell hy
          have HQ := Lib.hid (HK.out.quiet (x := x) (y := y) (HX.out _ (HP2.out.1.mem_iff.1 (List.mem_of_getElem? hx))) (HX.out _ (HP2.out.1.mem_iff.1 (List.mem_of_getElem? hy))) HZ.out.but)
          have Hx := Lib.hid hx
          have Hy := Lib.hid hy
          have hjn0 : (0 : Int) ≤ (j : Int) := Int.natCast_nonneg j
          have hjn1 : (j : Int) < (n : Int) := by omega
          have hjm1 : (j1 : Int) < (n : Int) := by omega
          clear hx hy
          go_upto_region 4 with fail
          go_quiet (first | (refine Calls.quiet_of (HQ.out _)))
          have HZ5 := Lib.hid (HZ.out.drewN nq)
          generalize wr.drewN nq = W5 at *
          clear c0 c1 HQ HZ HS
          have Ex : Hid (ys[i]? = some x ∧ ys[j1]? = some y) := Lib.hid ⟨by
            have h := HP2.out.2.1 j
            rw [if_pos rfl, Hx.out] at h
            exact h.symm, by
            have h := HP2.out.2.1 j1
            rw [if_neg (by omega), if_neg (by omega), Hy.out] at h
            exact h.symm⟩
          by_cases hlt : kf x y < 0
          · have Hlt : Hid (∀ x y, ys[j1]? = some x → ys[i]? = some y → w x < w y) := Lib.hid (fun u v hu hv => by
              rw [Ex.out.2] at hu
              rw [Ex.out.1] at hv
              cases hu
              cases hv
              exact (HKf.out _ _).1 hlt)
            rw [decide_eq_true hlt]
            have c0 := HZ5.out.cell Hx.out
            have c1 := HZ5.out.cell Hy.out
            have z0 := HZ5.out.frozen j
            have z1 := HZ5.out.frozen j1
            obtain ⟨v2, c2⟩ := HZ5.out.mid j y (show j1 < n by omega)
            have z2 := HZ5.out.midz j y j1
            have HN : Hid (∀ m, (((zs.set j y).set j1 x).Perm xs ∧ (∀ t, ((zs.set j y).set j1 x)[t]? = ys[if t = j1 then i else if j1 < t ∧ t ≤ i then t - 1 else t]?) ∧ (j1 = i ∨ ∀ x y, ys[j1]? = some x → ys[i]? = some y → w x < w y)) ∧ SortNow W0 (((W5.setCell ⟨g, j, none⟩ (.int .i64 y)).setCell ⟨g, j1, none⟩ (.int .i64 x)).drewN m) base g c n ((zs.set j y).set j1 x)) := Lib.hid (fun m => ⟨⟨(swap_perm Hx.out Hy.out).trans HP2.out.1, ins_swap (by omega) hji HP2.out.2.1 Hx.out Hy.out, .inr (Hlt.out)⟩, (HZ5.out.swap j j1 x y).drewN m⟩)
            clear hlt
            go_upto_region 6 with fail
            go_region
            all_goals
              go_wp2_with fail
              go_roundg nk
              case measure => omega
              case rel => exact ⟨j1, _, by omega, by omega, by omega, by go_num, Lib.hid (HN.out 1).1, Lib.hid (HN.out 1).2⟩
          · have Hnl := Lib.hid hlt
            have HE : Hid (zs.Perm xs ∧ Seg (ltW w) zs a (i + 1) ∧ Moved xs zs a (i + 1)) := Lib.hid ⟨HP2.out.1, ins_step (by omega) (by omega) (by have := HY0.out.len; omega) HP.out.2.1 (moved_asc HA.out HP.out.2.2 (by omega)) (.inr (fun u v hu hv => by rw [show j - 1 = j1 by omega, Ex.out.2] at hu; rw [Ex.out.1] at hv; cases hu; cases hv; exact fun h => Hnl.out ((HKf.out _ _).2 h))) HP2.out.2.2 HP2.out.2.1 |>.1, (HP.out.2.2.wider (Nat.le_refl _) (Nat.le_succ _)).trans (ins_step (by omega) (by omega) (by have := HY0.out.len; omega) HP.out.2.1 (moved_asc HA.out HP.out.2.2 (by omega)) (.inr (fun u v hu hv => by rw [show j - 1 = j1 by omega, Ex.out.2] at hu; rw [Ex.out.1] at hv; cases hu; cases hv; exact fun h => Hnl.out ((HKf.out _ _).2 h))) HP2.out.2.2 HP2.out.2.1).2⟩
            rw [decide_eq_false hlt]
            clear hlt
            go_wp2_with fail
            go_roundg mk
            case measure => omega
            case rel => exact ⟨i + 1, zs, by omega, by omega, by go_num, by omega, .inl (by omega), HE, HZ5⟩
        · have HE : Hid (zs.Perm xs ∧ Seg (ltW w) zs a (i + 1) ∧ Moved xs zs a (i + 1)) := Lib.hid ⟨HP2.out.1, ins_step (by omega) (by omega) (by have := HY0.out.len; omega) HP.out.2.1 (moved_asc HA.out HP.out.2.2 (by omega)) (.inl (by omega)) HP2.out.2.2 HP2.out.2.1 |>.1, (HP.out.2.2.wider (Nat.le_refl _) (Nat.le_succ _)).trans (ins_step (by omega) (by omega) (by have := HY0.out.len; omega) HP.out.2.1 (moved_asc HA.out HP.out.2.2 (by omega)) (.inl (by omega)) HP2.out.2.2 HP2.out.2.1).2⟩
          go_upto_region 4 with fail
          go_quiet (fail)
          have HZ5 := Lib.hid (HZ.out.drewN nq)
          generalize wr.drewN nq = W5 at *
          go_wp2_with fail
          go_roundg mk
          case measure => omega
          case rel => exact ⟨i + 1, zs, by omega, by omega, by go_num, by omega, .inl (by omega), HE, HZ5⟩
    · have HE : Hid (ys.Perm xs ∧ Seg (ltW w) ys a b ∧ Moved xs ys a b) := Lib.hid ⟨HP.out.1, HP.out.2.1.part (Nat.le_refl _) (by omega), HP.out.2.2.exit (by omega)⟩
      go_wp2_with fail
      go_end0
      exact ⟨rfl, ys, HE.out, HY.out⟩
end Go.Proofs.YtiknhfbkphoceaaGreatDoor
