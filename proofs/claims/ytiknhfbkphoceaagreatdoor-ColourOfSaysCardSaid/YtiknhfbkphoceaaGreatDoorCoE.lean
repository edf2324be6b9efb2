/-
  slices.SortStableFunc of a row of numbers: it leaves a permutation: symMerge, stable.
  Conditions: the order that is asked for reads only.
-/
import Derived.Test.YtiknhfbkphoceaaGreatDoorCoD
namespace Go.Proofs.YtiknhfbkphoceaaGreatDoor
open Go.RowKit

set_option maxRecDepth 100000 in
set_option maxHeartbeats 8000000 in
theorem symMerge_any (W0 : World) (base g c n : Nat) (xs0 : List Int) (Fc : FuncId) (cap : Array Value) (kf : Int → Int → Int) (hn : n ≤ 1000)
    (hc : ∀ (a : Array Value) (W : World), (callFunc Fc a).run Tryz.prog W = .ok (.enter Fc a) W) (hk : AsksOnly W0 g Fc cap xs0 kf) (w : Int → Int) (hkf : ∀ x y, kf x y < 0 ↔ w y < w x) :
    ∀ (d a m b : Nat) (xs : List Int) (W : World), b - a ≤ d → SortNow W0 W base g c n xs → (∀ x ∈ xs, x ∈ xs0) → a < m → m < b → b ≤ n → Seg (ltW w) xs a m → Seg (ltW w) xs m b → Cross (· < ·) xs a m m b →
    Calls Tryz.prog 60 #[.slice (some ⟨g, 0, none⟩) n c, .int .i64 (a : Int), .int .i64 (m : Int), .int .i64 (b : Int), .func (.func Fc) #[] cap] W fun e W' => e = .returned (.tuple #[]) ∧ ∃ ys, (ys.Perm xs ∧ Seg (ltW w) ys a b ∧ Moved xs ys a b) ∧ SortNow W0 W' base g c n ys := by
  intro d
  induction d with
  | zero =>
    intro a m b xs W hd h hx0 ham hmb hb hs1 hs2 hcr
    omega
  | succ d ih =>
    intro a m b xs W hd h hx0 ham hmb hb hs1 hs2 hcr
    by_cases h1 : m = a + 1
    · exact symMerge_one W0 base g c n xs0 Fc cap kf hn hc hk w hkf a m b xs W h hx0 ham hmb hb h1 hs2 hcr
    · by_cases h2 : b = m + 1
      · exact symMerge_two W0 base g c n xs0 Fc cap kf hn hc hk w hkf a m b xs W h hx0 ham hmb hb h2 h1 hs1 hcr
      · have hb1 : ((m : Int) - (a : Int) == 1) = false := by simp; omega
        have HS := Lib.hid h
        have HX := Lib.hid hx0
        have HK := Lib.hid hk
        have HI := Lib.hid ih
        have HSe := Lib.hid (And.intro hs1 (And.intro hs2 hcr))
        have HKf := Lib.hid hkf
        clear h hx0 hk ih hs1 hs2 hcr hkf
        have hb2 : ((b : Int) - (m : Int) == 1) = false := by simp; omega
        obtain ⟨md, hmd⟩ : ∃ md : Nat, ((a : Int) + (b : Int)) / 2 = (md : Int) := ⟨(a + b) / 2, by omega⟩
        obtain ⟨nn, hnn⟩ : ∃ nn : Nat, (md : Int) + (m : Int) = (nn : Int) := ⟨md + m, by omega⟩
        obtain ⟨pp, hpp⟩ : ∃ pp : Nat, (nn : Int) - 1 = (pp : Int) := ⟨nn - 1, by omega⟩
        have Hne : Hid (a + 2 ≤ m ∧ m + 2 ≤ b) := Lib.hid (by omega)
        have HNM : Hid (∃ s0 r0 : Nat, a ≤ s0 ∧ s0 ≤ r0 ∧ r0 ≤ m ∧ r0 ≤ md ∧ nn ≤ s0 + b ∧ (((m : Int) > (md : Int) ∧ (nn : Int) - (b : Int) = (s0 : Int) ∧ r0 = md) ∨ (¬ (m : Int) > (md : Int) ∧ s0 = a ∧ r0 = m))) := Lib.hid (by
          by_cases hgt : (m : Int) > (md : Int)
          · exact ⟨nn - b, md, by omega, by omega, by omega, by omega, by omega, .inl ⟨hgt, by omega, rfl⟩⟩
          · exact ⟨a, m, by omega, by omega, by omega, by omega, by omega, .inr ⟨hgt, rfl, rfl⟩⟩)
        obtain ⟨s0, r0, hs1, hs2, hs3, hs4, hs5, hcase⟩ := HNM.out
        have HSR : Hid ((s0 = a ∨ s0 + b = md + m) ∧ (r0 = m ∨ r0 = md)) := Lib.hid (by omega)
        have Hmd : Hid (a < md ∧ md < b ∧ nn = md + m ∧ nn = pp + 1) := Lib.hid (by omega)
        have hS := Lib.hid (And.intro hs1 (And.intro hs2 (And.intro hs3 (And.intro hs4 hs5))))
        clear h1 h2 hs1 hs2 hs3 hs4 hs5 HNM
        go_enter Tryz.func60, Tryz.ntmps60
        go_upto_region 27 with fail
        go_upto_if 140 with fail
        go_cut [20, 21] (fun u20 u21 wx => u20 = .int .i64 (s0 : Int) ∧ u21 = .int .i64 (r0 : Int) ∧ wx = W)
        case first =>
          as_aux_lemma =>
            rcases hcase with ⟨hgt, he, rfl⟩ | ⟨hgt, rfl, rfl⟩
            · go_wp2_with fail
              go_meet
              exact ⟨rfl, rfl, rfl⟩
            · go_wp2_with fail
              go_meet
              exact ⟨rfl, rfl, rfl⟩
        case rest =>
          as_aux_lemma =>
            obtain ⟨rfl, rfl, rfl⟩ := hcut
            clear hcase
            obtain ⟨hs1, hs2, hs3, hs4, hs5⟩ := hS.out
            go_upto_region 33 with fail
            go_loopg [20, 21] n (fun gk us ur wx => ∃ st r : Nat, r ≤ st + gk ∧ s0 ≤ st ∧ st ≤ r ∧ r ≤ r0 ∧ us = .int .i64 (st : Int) ∧ ur = .int .i64 (r : Int) ∧ Hid ((st = s0 ∨ ∀ x y, xs[st - 1]? = some x → xs[nn - st]? = some y → ¬ w x < w y) ∧ (r = r0 ∨ ∀ x y, xs[r]? = some x → xs[nn - r - 1]? = some y → w x < w y)) ∧ Hid (SortNow W0 wx base g c n xs))
            case atStart => exact ⟨s0, r0, by omega, Nat.le_refl _, hs2, Nat.le_refl _, rfl, rfl, Lib.hid ⟨.inl rfl, .inl rfl⟩, HS⟩
            case round =>
              obtain ⟨st, r, hsr, hst, hle, hrr, rfl, rfl, HR, HY⟩ := hrel
              by_cases hlt : (st : Int) < (r : Int)
              · obtain ⟨mk, rfl⟩ : ∃ mk, gk = mk + 1 := ⟨gk - 1, by omega⟩
                obtain ⟨cc, hcc⟩ : ∃ cc : Nat, ((st : Int) + (r : Int)) / 2 = (cc : Int) := ⟨(st + r) / 2, by omega⟩
                have hc1 : st ≤ cc ∧ cc < r := by omega
                obtain ⟨pc, hpc⟩ : ∃ pc : Nat, (pp : Int) - (cc : Int) = (pc : Int) := ⟨pp - cc, by have := Hmd.out; omega⟩
                have hc0 : (0 : Int) ≤ (cc : Int) := Int.natCast_nonneg cc
                have hc2 : (cc : Int) < (n : Int) := by omega
                have hp0 : (0 : Int) ≤ (pc : Int) := Int.natCast_nonneg pc
                have hp2 : (pc : Int) < (n : Int) := by have := Hmd.out; omega
                obtain ⟨xc, hxc⟩ : ∃ x, xs[cc]? = some x := ⟨_, List.getElem?_eq_getElem (by rw [HY.out.len]; omega)⟩
                obtain ⟨xp, hxp⟩ : ∃ x, xs[pc]? = some x := ⟨_, List.getElem?_eq_getElem (by rw [HY.out.len]; omega)⟩
                have c0 := HY.out.cell hxc
                have c1 := HY.out.cell hxp
                have HQ := Lib.hid (HK.out.quiet (x := xp) (y := xc) (HX.out _ (List.mem_of_getElem? hxp)) (HX.out _ (List.mem_of_getElem? hxc)) HY.out.but)
                have Hxc := Lib.hid hxc
                have Hxp := Lib.hid hxp
                have Hpc : Hid (nn - (cc + 1) = pc ∧ nn - cc - 1 = pc ∧ cc + 1 - 1 = cc) := Lib.hid (by have := Hmd.out; omega)
                clear hxc hxp
                go_upto_region 35 with fail
                go_quiet (first | (refine Calls.quiet_of (HQ.out _)))
                have HY5 := Lib.hid (HY.out.drewN nq)
                generalize wr.drewN nq = W5 at *
                clear c0 c1 HQ HY
                by_cases hl : kf xp xc < 0
                · have HN1 : Hid (∀ x y, xs[cc]? = some x → xs[nn - cc - 1]? = some y → w x < w y) := Lib.hid (fun u v hu hv => by
                    rw [Hxc.out] at hu
                    rw [Hpc.out.2.1, Hxp.out] at hv
                    cases hu
                    cases hv
                    exact (HKf.out _ _).1 hl)
                  rw [decide_eq_true hl]
                  clear hl
                  go_wp2_with fail
                  go_roundg mk
                  case measure => omega
                  case rel => exact ⟨st, cc, by omega, hst, by omega, by omega, rfl, by go_num, Lib.hid ⟨HR.out.1, .inr HN1.out⟩, HY5⟩
                · have HN1 : Hid (∀ x y, xs[cc + 1 - 1]? = some x → xs[nn - (cc + 1)]? = some y → ¬ w x < w y) := Lib.hid (fun u v hu hv => by
                    rw [Hpc.out.2.2, Hxc.out] at hu
                    rw [Hpc.out.1, Hxp.out] at hv
                    cases hu
                    cases hv
                    exact fun h => hl ((HKf.out _ _).2 h))
                  rw [decide_eq_false hl]
                  clear hl
                  go_wp2_with fail
                  go_roundg mk
                  case measure => omega
                  case rel => exact ⟨cc + 1, r, by omega, by omega, by omega, hrr, by go_num, rfl, Lib.hid ⟨.inr HN1.out, HR.out.2⟩, HY5⟩
              · obtain ⟨en, hen⟩ : ∃ en : Nat, (nn : Int) - (st : Int) = (en : Int) := ⟨nn - st, by have := Hmd.out; omega⟩
                have HEn : Hid (en + st = nn ∧ en ≤ b ∧ st ≤ m ∧ st ≤ md ∧ a ≤ st ∧ nn = md + m) := Lib.hid (by have := Hmd.out; omega)
                have HPt : Hid (∀ zs : List Int, (∀ t, zs[t]? = xs[rotIdx st m en t]?) → Moved xs zs a b ∧ (Seg (ltW w) zs a st ∧ Seg (ltW w) zs st md ∧ Cross (· < ·) zs a st st md) ∧ (Seg (ltW w) zs md en ∧ Seg (ltW w) zs en b ∧ Cross (· < ·) zs md en en b) ∧ Cross (ltW w) zs a md md b) := Lib.hid (fun zs hz => by
                  have h1 := HEn.out
                  have h2 := Hmd.out
                  have h3 := HR.out
                  have hrs : r = st := by omega
                  have e1 : nn - st = en := by omega
                  have e2 : nn - r - 1 = en - 1 := by omega
                  rw [e1, e2, hrs] at h3
                  exact rot_parts (s0 := s0) (r0 := r0) (by have := HS.out.len; omega) (by omega) HSe.out.1 HSe.out.2.1 HSe.out.2.2 HSR.out.1 HSR.out.2 (h3.1.imp id fun h x y hx hy => by have := h x y hx hy; omega) h3.2 hz)
                go_upto_region 39 with fail
                go_cut [185] (fun s wx => s = .bool (decide ((st : Int) < (m : Int)) && decide ((m : Int) < (en : Int))) ∧ Hid (SortNow W0 wx base g c n xs))
                case first =>
                  as_aux_lemma =>
                    by_cases hr1 : (st : Int) < (m : Int)
                    · by_cases hr2 : (m : Int) < (en : Int)
                      · go_wp2_with fail
                        go_meet
                        exact ⟨by rw [decide_eq_true (by omega), decide_eq_true (by omega)]; rfl, HY⟩
                      · go_wp2_with fail
                        go_meet
                        exact ⟨by rw [decide_eq_true (by omega), decide_eq_false (by omega)]; rfl, HY⟩
                    · go_wp2_with fail
                      go_meet
                      exact ⟨by rw [decide_eq_false (by omega)]; rfl, HY⟩
                case rest =>
                  as_aux_lemma =>
                    clear HY
                    obtain ⟨rfl, HY⟩ := hcut
                    obtain ⟨bbA, hbbA⟩ : ∃ bb, (decide ((st : Int) < (m : Int)) && decide ((m : Int) < (en : Int))) = bb := ⟨_, rfl⟩
                    rw [hbbA]
                    have HbbA := Lib.hid hbbA
                    clear hbbA
                    go_upto_if 185 with fail
                    go_cut [] (fun wx => ∃ ys, Hid (ys.Perm xs ∧ ∀ t, ys[t]? = xs[rotIdx st m en t]?) ∧ Hid (SortNow W0 wx base g c n ys))
                    case first =>
                      as_aux_lemma =>
                        cases bbA with
                        | false =>
                          have HId : Hid (xs.Perm xs ∧ ∀ t, xs[t]? = xs[rotIdx st m en t]?) := Lib.hid ⟨List.Perm.refl _, fun t => by
                            have hb := HbbA.out
                            rw [Bool.and_eq_false_iff, decide_eq_false_iff_not, decide_eq_false_iff_not] at hb
                            have h1 := HEn.out
                            exact rot_none (by omega) (by omega) t⟩
                          go_wp2_with fail
                          go_meet
                          exact ⟨xs, HId, HY⟩
                        | true =>
                          have hb := HbbA.out
                          rw [Bool.and_eq_true, decide_eq_true_eq, decide_eq_true_eq] at hb
                          obtain ⟨hr1, hr2⟩ := hb
                          have HRo := Lib.hid (rotate_any W0 base g c n xs st m en (.func (.func Fc) #[] cap) _ HY.out hn (by omega) (by omega) (by have := HEn.out; omega))
                          go_wp2_with fail
                          refine HRo.out.mono ?_
                          rintro e w1 ⟨rfl, zs, hp, hz⟩
                          have HZ := Lib.hid (And.intro hp hz)
                          clear hp hz
                          go_wp2_with fail
                          go_meet
                          exact ⟨zs, Lib.hid HZ.out.1, Lib.hid HZ.out.2⟩
                    case rest =>
                      as_aux_lemma =>
                        obtain ⟨ysA, HPA0, HYA⟩ := hcut
                        have HPA : Hid (ysA.Perm xs) := Lib.hid HPA0.out.1
                        have HQA := Lib.hid (HPt.out ysA HPA0.out.2)
                        clear HPA0
                        go_upto_region 41 with fail
                        go_cut [199] (fun s wx => s = .bool (decide ((a : Int) < (st : Int)) && decide ((st : Int) < (md : Int))) ∧ Hid (SortNow W0 wx base g c n ysA))
                        case first =>
                          as_aux_lemma =>
                            by_cases hr1 : (a : Int) < (st : Int)
                            · by_cases hr2 : (st : Int) < (md : Int)
                              · go_wp2_with fail
                                go_meet
                                exact ⟨by rw [decide_eq_true (by omega), decide_eq_true (by omega)]; rfl, HYA⟩
                              · go_wp2_with fail
                                go_meet
                                exact ⟨by rw [decide_eq_true (by omega), decide_eq_false (by omega)]; rfl, HYA⟩
                            · go_wp2_with fail
                              go_meet
                              exact ⟨by rw [decide_eq_false (by omega)]; rfl, HYA⟩
                        case rest =>
                          as_aux_lemma =>
                            clear HYA
                            obtain ⟨rfl, HYA⟩ := hcut
                            obtain ⟨bbB, hbbB⟩ : ∃ bb, (decide ((a : Int) < (st : Int)) && decide ((st : Int) < (md : Int))) = bb := ⟨_, rfl⟩
                            rw [hbbB]
                            have HbbB := Lib.hid hbbB
                            clear hbbB
                            go_upto_if 199 with fail
                            go_cut [] (fun wx => ∃ ys, Hid (ys.Perm xs ∧ Seg (ltW w) ys a md ∧ Moved ysA ys a md) ∧ Hid (SortNow W0 wx base g c n ys))
                            case first =>
                              as_aux_lemma =>
                                cases bbB with
                                | false =>
                                  have HId : Hid (ysA.Perm xs ∧ Seg (ltW w) ysA a md ∧ Moved ysA ysA a md) := Lib.hid ⟨HPA.out, by
                                    have hb := HbbB.out
                                    rw [Bool.and_eq_false_iff, decide_eq_false_iff_not, decide_eq_false_iff_not] at hb
                                    have h1 := HEn.out
                                    exact seg_half HQA.out.2.1.1 HQA.out.2.1.2.1 (by omega), Moved.refl _ _ _⟩
                                  go_wp2_with fail
                                  go_meet
                                  exact ⟨ysA, HId, HYA⟩
                                | true =>
                                  have hb := HbbB.out
                                  rw [Bool.and_eq_true, decide_eq_true_eq, decide_eq_true_eq] at hb
                                  obtain ⟨hr1, hr2⟩ := hb
                                  have HRo := Lib.hid (HI.out a st md ysA _ (by have := Hmd.out; omega) HYA.out (fun x hx => HX.out x (HPA.out.mem_iff.1 hx)) (by omega) (by omega) (by have := Hmd.out; omega) HQA.out.2.1.1 HQA.out.2.1.2.1 HQA.out.2.1.2.2)
                                  go_wp2_with fail
                                  refine HRo.out.mono ?_
                                  rintro e w1 ⟨rfl, zs, hp, hz⟩
                                  have HZ := Lib.hid (And.intro (And.intro (hp.1.trans HPA.out) hp.2) hz)
                                  clear hp hz
                                  go_wp2_with fail
                                  go_meet
                                  exact ⟨zs, Lib.hid HZ.out.1, Lib.hid HZ.out.2⟩
                            case rest =>
                              as_aux_lemma =>
                                obtain ⟨ysB, HPB0, HYB⟩ := hcut
                                have HPB : Hid (ysB.Perm xs) := Lib.hid HPB0.out.1
                                have HQB := Lib.hid HPB0.out.2
                                have HRt : Hid (Seg (ltW w) ysB md en ∧ Seg (ltW w) ysB en b ∧ Cross (· < ·) ysB md en en b) := Lib.hid ⟨HQA.out.2.2.1.1.same fun i h _ => HQB.out.2.1 i (.inr h), HQA.out.2.2.1.2.1.same fun i h _ => HQB.out.2.1 i (.inr (by have := HEn.out; have := Hmd.out; omega)), HQA.out.2.2.1.2.2.moved (fun i h h2 => ⟨i, h, h2, HQB.out.2.1 i (.inr h)⟩) (fun i h h2 => ⟨i, h, h2, HQB.out.2.1 i (.inr (by have := HEn.out; have := Hmd.out; omega))⟩)⟩
                                clear HPB0
                                go_upto_region 43 with fail
                                go_cut [213] (fun s wx => s = .bool (decide ((md : Int) < (en : Int)) && decide ((en : Int) < (b : Int))) ∧ Hid (SortNow W0 wx base g c n ysB))
                                case first =>
                                  as_aux_lemma =>
                                    by_cases hr1 : (md : Int) < (en : Int)
                                    · by_cases hr2 : (en : Int) < (b : Int)
                                      · go_wp2_with fail
                                        go_meet
                                        exact ⟨by rw [decide_eq_true (by omega), decide_eq_true (by omega)]; rfl, HYB⟩
                                      · go_wp2_with fail
                                        go_meet
                                        exact ⟨by rw [decide_eq_true (by omega), decide_eq_false (by omega)]; rfl, HYB⟩
                                    · go_wp2_with fail
                                      go_meet
                                      exact ⟨by rw [decide_eq_false (by omega)]; rfl, HYB⟩
                                case rest =>
                                  as_aux_lemma =>
                                    clear HYB
                                    obtain ⟨rfl, HYB⟩ := hcut
                                    obtain ⟨bbC, hbbC⟩ : ∃ bb, (decide ((md : Int) < (en : Int)) && decide ((en : Int) < (b : Int))) = bb := ⟨_, rfl⟩
                                    rw [hbbC]
                                    have HbbC := Lib.hid hbbC
                                    clear hbbC
                                    cases bbC with
                                    | false =>
                                      have HId : Hid (ysB.Perm xs ∧ Seg (ltW w) ysB a b ∧ Moved xs ysB a b) := Lib.hid (by
                                        have hb := HbbC.out
                                        rw [Bool.and_eq_false_iff, decide_eq_false_iff_not, decide_eq_false_iff_not] at hb
                                        have h1 := HEn.out
                                        have h2 := Hmd.out
                                        have hse := seg_half HRt.out.1 HRt.out.2.1 (by omega)
                                        exact ⟨HPB.out, merge_all HQA.out.2.2.2 HQB.out.2 HQB.out.1 (Moved.refl _ _ _) hse, HQA.out.1.trans (HQB.out.2.wider (Nat.le_refl _) (by omega))⟩)
                                      go_wp2_with fail
                                      go_end0
                                      exact ⟨rfl, ysB, HId.out, HYB.out⟩
                                    | true =>
                                      have hb := HbbC.out
                                      rw [Bool.and_eq_true, decide_eq_true_eq, decide_eq_true_eq] at hb
                                      obtain ⟨hr1, hr2⟩ := hb
                                      have HRo := Lib.hid (HI.out md en b ysB _ (by have := Hmd.out; omega) HYB.out (fun x hx => HX.out x (HPB.out.mem_iff.1 hx)) (by omega) (by omega) (by omega) HRt.out.1 HRt.out.2.1 HRt.out.2.2)
                                      go_wp2_with fail
                                      refine HRo.out.mono ?_
                                      rintro e w1 ⟨rfl, zs, hp, hz⟩
                                      have HZ := Lib.hid (And.intro (And.intro (hp.1.trans HPB.out) (And.intro (merge_all HQA.out.2.2.2 HQB.out.2 HQB.out.1 hp.2.2 hp.2.1) ((HQA.out.1.trans (HQB.out.2.wider (Nat.le_refl _) (by have := Hmd.out; omega))).trans (hp.2.2.wider (by have := Hmd.out; omega) (Nat.le_refl _))))) hz)
                                      clear hp hz
                                      go_wp2_with fail
                                      go_end0
                                      exact ⟨rfl, zs, HZ.out.1, HZ.out.2⟩
end Go.Proofs.YtiknhfbkphoceaaGreatDoor
