/-
  slices.SortStableFunc of a row of numbers: it leaves them in order: symMerge.
  Conditions: the order that is asked for reads only.
-/
import Derived.Test.YtiknhfbkphoceaaGreatDoorCoC
namespace Go.Proofs.YtiknhfbkphoceaaGreatDoor
open Go.RowKit

set_option maxRecDepth 100000 in
set_option maxHeartbeats 8000000 in
theorem symMerge_one (W0 : World) (base g c n : Nat) (xs0 : List Int) (Fc : FuncId) (cap : Array Value) (kf : Int → Int → Int) (hn : n ≤ 1000)
    (hc : ∀ (a : Array Value) (W : World), (callFunc Fc a).run Tryz.prog W = .ok (.enter Fc a) W) (hk : AsksOnly W0 g Fc cap xs0 kf) (w : Int → Int) (hkf : ∀ x y, kf x y < 0 ↔ w y < w x) (a m b : Nat) (xs : List Int) (W : World) (h : SortNow W0 W base g c n xs) (hx0 : ∀ x ∈ xs, x ∈ xs0) (ham : a < m) (hmb : m < b) (hb : b ≤ n) (h1 : m = a + 1) (hseg : Seg (ltW w) xs m b) (hcr : Cross (· < ·) xs a m m b) :
    Calls Tryz.prog 60 #[.slice (some ⟨g, 0, none⟩) n c, .int .i64 (a : Int), .int .i64 (m : Int), .int .i64 (b : Int), .func (.func Fc) #[] cap] W fun e W' => e = .returned (.tuple #[]) ∧ ∃ ys, (ys.Perm xs ∧ Seg (ltW w) ys a b ∧ Moved xs ys a b) ∧ SortNow W0 W' base g c n ys := by
  have HS := Lib.hid h
  have HX := Lib.hid hx0
  have HK := Lib.hid hk
  have HSe := Lib.hid hseg
  have HCr := Lib.hid hcr
  have HKf := Lib.hid hkf
  clear h hx0 hk hseg hcr hkf
  obtain ⟨nh, hnh⟩ : ∃ nh, b - m = nh := ⟨_, rfl⟩
  have Hnh := Lib.hid hnh
  clear hnh
  have hb1 : ((m : Int) - (a : Int) == 1) = true := by simp; omega
  have Hm : Hid (m = a + 1) := Lib.hid h1
  obtain ⟨xa, hxa⟩ : ∃ xa, xs[a]? = some xa := ⟨_, List.getElem?_eq_getElem (by rw [HS.out.len]; omega)⟩
  have Hxa := Lib.hid hxa
  have ha1 : (a : Int) < (n : Int) := by omega
  have ha0 : (0 : Int) ≤ (a : Int) := Int.natCast_nonneg a
  have hm1 : 1 ≤ m := by omega
  clear h1 hxa
  go_enter Tryz.func60, Tryz.ntmps60
  go_upto_region 3 with fail
  go_loopg [10, 11] nh (fun gk ui uj wx => ∃ i j : Nat, j ≤ i + gk ∧ m ≤ i ∧ i ≤ j ∧ j ≤ b ∧ ui = .int .i64 (i : Int) ∧ uj = .int .i64 (j : Int) ∧ Hid ((i = m ∨ ∀ x y, xs[i - 1]? = some y → xs[a]? = some x → w x < w y) ∧ (j = b ∨ ∀ x y, xs[j]? = some y → xs[a]? = some x → ¬ w x < w y)) ∧ Hid (SortNow W0 wx base g c n xs))
  case atStart => exact ⟨m, b, by have := Hnh.out; omega, Nat.le_refl _, by omega, Nat.le_refl _, rfl, rfl, Lib.hid ⟨.inl rfl, .inl rfl⟩, HS⟩
  case round =>
    obtain ⟨i, j, hij, hmi, hle, hjb, rfl, rfl, HR, HY⟩ := hrel
    by_cases hlt : (i : Int) < (j : Int)
    · obtain ⟨mk, rfl⟩ : ∃ mk, gk = mk + 1 := ⟨gk - 1, by omega⟩
      obtain ⟨hf, hhf⟩ : ∃ hf : Nat, ((i : Int) + (j : Int)) / 2 = (hf : Int) := ⟨(i + j) / 2, by omega⟩
      have hf0 : (0 : Int) ≤ (hf : Int) := Int.natCast_nonneg hf
      have hf1 : i ≤ hf ∧ hf < j := by omega
      have hf2 : (hf : Int) < (n : Int) := by omega
      obtain ⟨xh, hxh⟩ : ∃ xh, xs[hf]? = some xh := ⟨_, List.getElem?_eq_getElem (by rw [HY.out.len]; omega)⟩
      have c0 := HY.out.cell Hxa.out
      have c1 := HY.out.cell hxh
      have HQ := Lib.hid (HK.out.quiet (x := xh) (y := xa) (HX.out _ (List.mem_of_getElem? hxh)) (HX.out _ (List.mem_of_getElem? Hxa.out)) HY.out.but)
      have Hxh := Lib.hid hxh
      clear hxh
      go_upto_region 5 with fail
      go_quiet (first | (refine Calls.quiet_of (HQ.out _)))
      have HY5 := Lib.hid (HY.out.drewN nq)
      generalize wr.drewN nq = W5 at *
      clear c0 c1 HQ HY
      by_cases hl : kf xh xa < 0
      · have HN1 : Hid (∀ x y, xs[hf]? = some y → xs[a]? = some x → w x < w y) := Lib.hid (fun u v hu hv => by
          rw [Hxh.out] at hu
          rw [Hxa.out] at hv
          cases hu
          cases hv
          exact (HKf.out _ _).1 hl)
        rw [decide_eq_true hl]
        clear hl
        go_wp2_with fail
        go_roundg mk
        case measure => omega
        case rel => exact ⟨hf + 1, j, by omega, by omega, by omega, hjb, by go_num, rfl, Lib.hid ⟨.inr HN1.out, HR.out.2⟩, HY5⟩
      · have HN1 : Hid (∀ x y, xs[hf]? = some y → xs[a]? = some x → ¬ w x < w y) := Lib.hid (fun u v hu hv => by
          rw [Hxh.out] at hu
          rw [Hxa.out] at hv
          cases hu
          cases hv
          exact fun h => hl ((HKf.out _ _).2 h))
        rw [decide_eq_false hl]
        clear hl
        go_wp2_with fail
        go_roundg mk
        case measure => omega
        case rel => exact ⟨i, hf, by omega, hmi, by omega, by omega, rfl, by go_num, Lib.hid ⟨HR.out.1, .inr HN1.out⟩, HY5⟩
    · obtain ⟨i1, hi1⟩ : ∃ i1 : Nat, (i : Int) - 1 = (i1 : Int) := ⟨i - 1, by omega⟩
      go_upto_region 9 with fail
      go_loopg [13] n (fun gk uk wx => ∃ (k : Nat) (ys : List Int), i1 ≤ k + gk ∧ a ≤ k ∧ k ≤ i1 ∧ uk = .int .i64 (k : Int) ∧ Hid (ys.Perm xs ∧ ∀ t, ys[t]? = xs[if a ≤ t ∧ t < k then t + 1 else if t = k then a else t]?) ∧ Hid (SortNow W0 wx base g c n ys))
      case atStart => exact ⟨a, xs, by omega, Nat.le_refl _, by omega, rfl, Lib.hid ⟨List.Perm.refl _, one_zero xs a⟩, HY⟩
      case round =>
        obtain ⟨k, ys, hkg, hak, hkl, rfl, HP, HZ⟩ := hrel
        by_cases hki : (k : Int) < (i1 : Int)
        · obtain ⟨nk, rfl⟩ : ∃ nk, gk = nk + 1 := ⟨gk - 1, by omega⟩
          obtain ⟨k1, hk1⟩ : ∃ k1 : Nat, (k : Int) + 1 = (k1 : Int) := ⟨k + 1, by omega⟩
          obtain ⟨x, hx⟩ : ∃ x, ys[k]? = some x := ⟨_, List.getElem?_eq_getElem (by rw [HZ.out.len]; omega)⟩
          obtain ⟨y, hy⟩ : ∃ y, ys[k1]? = some y := ⟨_, List.getElem?_eq_getElem (by rw [HZ.out.len]; omega)⟩
          have c0 := HZ.out.cell hx
          have c1 := HZ.out.cell hy
          have z0 := HZ.out.frozen k
          have z1 := HZ.out.frozen k1
          obtain ⟨v2, c2⟩ := HZ.out.mid k y (show k1 < n by omega)
          have z2 := HZ.out.midz k y k1
          have HN : Hid (∀ m, (((ys.set k y).set k1 x).Perm xs ∧ ∀ t, ((ys.set k y).set k1 x)[t]? = xs[if a ≤ t ∧ t < k1 then t + 1 else if t = k1 then a else t]?) ∧ SortNow W0 (((wr.setCell ⟨g, k, none⟩ (.int .i64 y)).setCell ⟨g, k1, none⟩ (.int .i64 x)).drewN m) base g c n ((ys.set k y).set k1 x)) := Lib.hid (fun m => ⟨⟨(swap_perm hx hy).trans HP.out.1, one_swap (by omega) hak HP.out.2 hx hy⟩, (HZ.out.swap k k1 x y).drewN m⟩)
          have hk0 : (0 : Int) ≤ (k : Int) := Int.natCast_nonneg k
          have hk2 : (k : Int) < (n : Int) := by omega
          have hk3 : (k1 : Int) < (n : Int) := by omega
          clear hx hy
          go_upto_region 11 with fail
          go_region
          all_goals
            go_wp2_with fail
            go_roundg nk
            case measure => omega
            case rel => exact ⟨k1, _, by omega, by omega, by omega, by go_num, Lib.hid (HN.out 1).1, Lib.hid (HN.out 1).2⟩
        · have HE : Hid (ys.Perm xs ∧ Seg (ltW w) ys a b ∧ Moved xs ys a b) := Lib.hid (by
            have hm := Hm.out
            have hij2 : i = j := by omega
            have hz : ∀ t, ys[t]? = xs[if a ≤ t ∧ t + 1 < i then t + 1 else if t + 1 = i then a else t]? := fun t => by
              rw [HP.out.2 t]
              have key : ∀ p q : Nat, p = q → xs[p]? = xs[q]? := fun p q e => by rw [e]
              exact key _ _ (by (repeat' split) <;> omega)
            have hse := HSe.out
            have hcr := HCr.out
            have hr := HR.out
            rw [hm] at hse hcr hr
            exact ⟨HP.out.1, one_merge (by omega) (by omega) (by have := HS.out.len; omega) hse hcr hr.1 (by rw [hij2]; exact hr.2.imp id fun h x y hx hy => by have := h x y hx hy; omega) hz⟩)
          go_wp2_with fail
          refine bodyPost_ret (results_none rfl _ _ _) rfl ?_
          exact ⟨rfl, ys, HE.out, HZ.out⟩
set_option maxRecDepth 100000 in
set_option maxHeartbeats 8000000 in
theorem symMerge_two (W0 : World) (base g c n : Nat) (xs0 : List Int) (Fc : FuncId) (cap : Array Value) (kf : Int → Int → Int) (hn : n ≤ 1000)
    (hc : ∀ (a : Array Value) (W : World), (callFunc Fc a).run Tryz.prog W = .ok (.enter Fc a) W) (hk : AsksOnly W0 g Fc cap xs0 kf) (w : Int → Int) (hkf : ∀ x y, kf x y < 0 ↔ w y < w x) (a m b : Nat) (xs : List Int) (W : World) (h : SortNow W0 W base g c n xs) (hx0 : ∀ x ∈ xs, x ∈ xs0) (ham : a < m) (hmb : m < b) (hb : b ≤ n) (h2 : b = m + 1) (h1 : ¬ m = a + 1) (hseg : Seg (ltW w) xs a m) (hcr : Cross (· < ·) xs a m m b) :
    Calls Tryz.prog 60 #[.slice (some ⟨g, 0, none⟩) n c, .int .i64 (a : Int), .int .i64 (m : Int), .int .i64 (b : Int), .func (.func Fc) #[] cap] W fun e W' => e = .returned (.tuple #[]) ∧ ∃ ys, (ys.Perm xs ∧ Seg (ltW w) ys a b ∧ Moved xs ys a b) ∧ SortNow W0 W' base g c n ys := by
  have HS := Lib.hid h
  have HX := Lib.hid hx0
  have HK := Lib.hid hk
  have HSe := Lib.hid hseg
  have HCr := Lib.hid hcr
  have HKf := Lib.hid hkf
  have Hbm := Lib.hid h2
  clear h hx0 hk hseg hcr hkf
  have hb1 : ((m : Int) - (a : Int) == 1) = false := by simp; omega
  have hb2 : ((b : Int) - (m : Int) == 1) = true := by simp; omega
  obtain ⟨xm, hxm⟩ : ∃ xm, xs[m]? = some xm := ⟨_, List.getElem?_eq_getElem (by rw [HS.out.len]; omega)⟩
  have Hxm := Lib.hid hxm
  have hm1 : (m : Int) < (n : Int) := by omega
  have hm0 : (0 : Int) ≤ (m : Int) := Int.natCast_nonneg m
  clear h1 h2 hxm
  go_enter Tryz.func60, Tryz.ntmps60
  go_upto_region 15 with fail
  go_loopg [14, 15] n (fun gk ui uj wx => ∃ i j : Nat, j ≤ i + gk ∧ a ≤ i ∧ i ≤ j ∧ j ≤ m ∧ ui = .int .i64 (i : Int) ∧ uj = .int .i64 (j : Int) ∧ Hid ((i = a ∨ ∀ x y, xs[i - 1]? = some x → xs[m]? = some y → ¬ w x < w y) ∧ (j = m ∨ ∀ x y, xs[j]? = some x → xs[m]? = some y → w x < w y)) ∧ Hid (SortNow W0 wx base g c n xs))
  case atStart => exact ⟨a, m, by omega, Nat.le_refl _, by omega, Nat.le_refl _, rfl, rfl, Lib.hid ⟨.inl rfl, .inl rfl⟩, HS⟩
  case round =>
    obtain ⟨i, j, hij, hai, hle, hjm, rfl, rfl, HR, HY⟩ := hrel
    by_cases hlt : (i : Int) < (j : Int)
    · obtain ⟨mk, rfl⟩ : ∃ mk, gk = mk + 1 := ⟨gk - 1, by omega⟩
      obtain ⟨hf, hhf⟩ : ∃ hf : Nat, ((i : Int) + (j : Int)) / 2 = (hf : Int) := ⟨(i + j) / 2, by omega⟩
      have hf0 : (0 : Int) ≤ (hf : Int) := Int.natCast_nonneg hf
      have hf1 : i ≤ hf ∧ hf < j := by omega
      have hf2 : (hf : Int) < (n : Int) := by omega
      obtain ⟨xh, hxh⟩ : ∃ xh, xs[hf]? = some xh := ⟨_, List.getElem?_eq_getElem (by rw [HY.out.len]; omega)⟩
      have c0 := HY.out.cell Hxm.out
      have c1 := HY.out.cell hxh
      have HQ := Lib.hid (HK.out.quiet (x := xm) (y := xh) (HX.out _ (List.mem_of_getElem? Hxm.out)) (HX.out _ (List.mem_of_getElem? hxh)) HY.out.but)
      have Hxh := Lib.hid hxh
      clear hxh
      go_upto_region 17 with fail
      go_quiet (first | (refine Calls.quiet_of (HQ.out _)))
      have HY5 := Lib.hid (HY.out.drewN nq)
      generalize wr.drewN nq = W5 at *
      clear c0 c1 HQ HY
      by_cases hl : kf xm xh < 0
      · have HN1 : Hid (∀ x y, xs[hf]? = some x → xs[m]? = some y → w x < w y) := Lib.hid (fun u v hu hv => by
          rw [Hxh.out] at hu
          rw [Hxm.out] at hv
          cases hu
          cases hv
          exact (HKf.out _ _).1 hl)
        rw [decide_eq_true hl]
        clear hl
        go_wp2_with fail
        go_roundg mk
        case measure => omega
        case rel => exact ⟨i, hf, by omega, hai, by omega, by omega, rfl, by go_num, Lib.hid ⟨HR.out.1, .inr HN1.out⟩, HY5⟩
      · have HN1 : Hid (∀ x y, xs[hf]? = some x → xs[m]? = some y → ¬ w x < w y) := Lib.hid (fun u v hu hv => by
          rw [Hxh.out] at hu
          rw [Hxm.out] at hv
          cases hu
          cases hv
          exact fun h => hl ((HKf.out _ _).2 h))
        rw [decide_eq_false hl]
        clear hl
        go_wp2_with fail
        go_roundg mk
        case measure => omega
        case rel => exact ⟨hf + 1, j, by omega, by omega, by omega, hjm, by go_num, rfl, Lib.hid ⟨.inr HN1.out, HR.out.2⟩, HY5⟩
    · go_upto_region 21 with fail
      go_loopg [17] n (fun gk uk wx => ∃ (k : Nat) (ys : List Int), k ≤ i + gk ∧ k ≤ m ∧ i ≤ k ∧ uk = .int .i64 (k : Int) ∧ Hid (ys.Perm xs ∧ ∀ t, ys[t]? = xs[if t = k then m else if k < t ∧ t ≤ m then t - 1 else t]?) ∧ Hid (SortNow W0 wx base g c n ys))
      case atStart => exact ⟨m, xs, by omega, Nat.le_refl _, by omega, rfl, Lib.hid ⟨List.Perm.refl _, ins_zero xs m⟩, HY⟩
      case round =>
        obtain ⟨k, ys, hkg, hkm, hkl, rfl, HP, HZ⟩ := hrel
        by_cases hki : (k : Int) > (i : Int)
        · obtain ⟨nk, rfl⟩ : ∃ nk, gk = nk + 1 := ⟨gk - 1, by omega⟩
          obtain ⟨k1, hk1⟩ : ∃ k1 : Nat, (k : Int) - 1 = (k1 : Int) := ⟨k - 1, by omega⟩
          obtain ⟨x, hx⟩ : ∃ x, ys[k]? = some x := ⟨_, List.getElem?_eq_getElem (by rw [HZ.out.len]; omega)⟩
          obtain ⟨y, hy⟩ : ∃ y, ys[k1]? = some y := ⟨_, List.getElem?_eq_getElem (by rw [HZ.out.len]; omega)⟩
          have c0 := HZ.out.cell hx
          have c1 := HZ.out.cell hy
          have z0 := HZ.out.frozen k
          have z1 := HZ.out.frozen k1
          obtain ⟨v2, c2⟩ := HZ.out.mid k y (show k1 < n by omega)
          have z2 := HZ.out.midz k y k1
          have HN : Hid (∀ mq, (((ys.set k y).set k1 x).Perm xs ∧ ∀ t, ((ys.set k y).set k1 x)[t]? = xs[if t = k1 then m else if k1 < t ∧ t ≤ m then t - 1 else t]?) ∧ SortNow W0 (((wr.setCell ⟨g, k, none⟩ (.int .i64 y)).setCell ⟨g, k1, none⟩ (.int .i64 x)).drewN mq) base g c n ((ys.set k y).set k1 x)) := Lib.hid (fun mq => ⟨⟨(swap_perm hx hy).trans HP.out.1, ins_swap (by omega) hkm HP.out.2 hx hy⟩, (HZ.out.swap k k1 x y).drewN mq⟩)
          have hk0 : (0 : Int) ≤ (k : Int) := Int.natCast_nonneg k
          have hk2 : (k : Int) < (n : Int) := by omega
          have hk3 : (k1 : Int) < (n : Int) := by omega
          clear hx hy
          go_upto_region 23 with fail
          go_region
          all_goals
            go_wp2_with fail
            go_roundg nk
            case measure => omega
            case rel => exact ⟨k1, _, by omega, by omega, by omega, by go_num, Lib.hid (HN.out 1).1, Lib.hid (HN.out 1).2⟩
        · have HE : Hid (ys.Perm xs ∧ Seg (ltW w) ys a b ∧ Moved xs ys a b) := Lib.hid (by
            have hij2 : i = j := by omega
            have hki2 : k = i := by omega
            have hbm := Hbm.out
            have hz := HP.out.2
            rw [hki2] at hz
            have hcr := HCr.out
            have hr := HR.out
            rw [hbm] at hcr ⊢
            exact ⟨HP.out.1, two_merge hai (by omega) (by have := HS.out.len; omega) HSe.out hcr (hr.1.imp id fun h x y hx hy => by have := h x y hx hy; omega) (by rw [hij2]; exact hr.2) hz⟩)
          go_wp2_with fail
          refine bodyPost_ret (results_none rfl _ _ _) rfl ?_
          exact ⟨rfl, ys, HE.out, HZ.out⟩
end Go.Proofs.YtiknhfbkphoceaaGreatDoor
