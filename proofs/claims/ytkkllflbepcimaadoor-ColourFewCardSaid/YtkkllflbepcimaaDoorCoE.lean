/-
  slices.SortStableFunc of a row of numbers: it leaves a permutation: symMerge, stable.
  Conditions: the order that is asked for reads only.
-/
import Derived.Test.YtkkllflbepcimaaDoorCoD
namespace Go.Proofs.YtkkllflbepcimaaDoor
open Go.RowKit

set_option maxRecDepth 100000 in
set_option maxHeartbeats 8000000 in
theorem symMerge_any (W0 : World) (base g c n : Nat) (xs0 : List Int) (Fc : FuncId) (cap : Array Value) (kf : Int → Int → Int) (hn : n ≤ 1000)
    (hc : ∀ (a : Array Value) (W : World), (callFunc Fc a).run Tryd.prog W = .ok (.enter Fc a) W) (hk : AsksOnly W0 g Fc cap xs0 kf) :
    ∀ (d a m b : Nat) (xs : List Int) (W : World), b - a ≤ d → SortNow W0 W base g c n xs → (∀ x ∈ xs, x ∈ xs0) → a < m → m < b → b ≤ n →
    Calls Tryd.prog 47 #[.slice (some ⟨g, 0, none⟩) n c, .int .i64 (a : Int), .int .i64 (m : Int), .int .i64 (b : Int), .func (.func Fc) #[] cap] W fun e W' => e = .returned (.tuple #[]) ∧ ∃ ys, ys.Perm xs ∧ SortNow W0 W' base g c n ys := by
  intro d
  induction d with
  | zero =>
    intro a m b xs W hd h hx0 ham hmb hb
    omega
  | succ d ih =>
    intro a m b xs W hd h hx0 ham hmb hb
    by_cases h1 : m = a + 1
    · exact symMerge_one W0 base g c n xs0 Fc cap kf hn hc hk a m b xs W h hx0 ham hmb hb h1
    · by_cases h2 : b = m + 1
      · exact symMerge_two W0 base g c n xs0 Fc cap kf hn hc hk a m b xs W h hx0 ham hmb hb h2 h1
      · have hb1 : ((m : Int) - (a : Int) == 1) = false := by simp; omega
        have HS := Lib.hid h
        have HX := Lib.hid hx0
        have HK := Lib.hid hk
        have HI := Lib.hid ih
        clear h hx0 hk ih
        have hb2 : ((b : Int) - (m : Int) == 1) = false := by simp; omega
        obtain ⟨md, hmd⟩ : ∃ md : Nat, ((a : Int) + (b : Int)) / 2 = (md : Int) := ⟨(a + b) / 2, by omega⟩
        obtain ⟨nn, hnn⟩ : ∃ nn : Nat, (md : Int) + (m : Int) = (nn : Int) := ⟨md + m, by omega⟩
        obtain ⟨pp, hpp⟩ : ∃ pp : Nat, (nn : Int) - 1 = (pp : Int) := ⟨nn - 1, by omega⟩
        have Hne : Hid (a + 2 ≤ m ∧ m + 2 ≤ b) := Lib.hid (by omega)
        have HNM : Hid (∃ s0 r0 : Nat, a ≤ s0 ∧ s0 ≤ r0 ∧ r0 ≤ m ∧ r0 ≤ md ∧ nn ≤ s0 + b ∧ (((m : Int) > (md : Int) ∧ (nn : Int) - (b : Int) = (s0 : Int) ∧ r0 = md) ∨ (¬ (m : Int) > (md : Int) ∧ s0 = a ∧ r0 = m))) := Lib.hid (by
          by_cases hgt : (m : Int) > (md : Int)
          · exact ⟨nn - b, md, by omega, by omega, by omega, by omega, by omega, .inl ⟨hgt, by omega, rfl⟩⟩
          · exact ⟨a, m, by omega, by omega, by omega, by omega, by omega, .inr ⟨hgt, rfl, rfl⟩⟩)
        obtain ⟨s0, r0, hs1, hs2, hs3, hs4, hs5, hcase⟩ := HNM.out
        have Hmd : Hid (a < md ∧ md < b ∧ nn = md + m ∧ nn = pp + 1) := Lib.hid (by omega)
        have hS := Lib.hid (And.intro hs1 (And.intro hs2 (And.intro hs3 (And.intro hs4 hs5))))
        clear h1 h2 hs1 hs2 hs3 hs4 hs5 HNM
        go_enter Tryd.func47, Tryd.ntmps47
        go_upto_region 27 with fail
        go_upto_if 140 with fail
        go_cut [20, 21] (fun u20 u21 wx => u20 = .int .i64 (s0 : Int) ∧ u21 = .int .i64 (r0 : Int) ∧ wx = W)
        case first =>
          as_aux_lemma =>
            rcases hcase with ⟨hgt, he, rfl⟩ | ⟨hgt, rfl, rfl⟩
            · go_wp2_with fail
              go_meet
              exact ⟨rfl, rfl, rfl⟩
            · go_wp2_with fail
              go_meet
              exact ⟨rfl, rfl, rfl⟩
        case rest =>
          as_aux_lemma =>
            obtain ⟨rfl, rfl, rfl⟩ := hcut
            clear hcase
            obtain ⟨hs1, hs2, hs3, hs4, hs5⟩ := hS.out
            go_upto_region 33 with fail
            go_loopg [20, 21] n (fun gk us ur wx => ∃ st r : Nat, r ≤ st + gk ∧ s0 ≤ st ∧ st ≤ r ∧ r ≤ r0 ∧ us = .int .i64 (st : Int) ∧ ur = .int .i64 (r : Int) ∧ Hid (SortNow W0 wx base g c n xs))
            case atStart => exact ⟨s0, r0, by omega, Nat.le_refl _, hs2, Nat.le_refl _, rfl, rfl, HS⟩
            case round =>
              obtain ⟨st, r, hsr, hst, hle, hrr, rfl, rfl, HY⟩ := hrel
              by_cases hlt : (st : Int) < (r : Int)
              · obtain ⟨mk, rfl⟩ : ∃ mk, gk = mk + 1 := ⟨gk - 1, by omega⟩
                obtain ⟨cc, hcc⟩ : ∃ cc : Nat, ((st : Int) + (r : Int)) / 2 = (cc : Int) := ⟨(st + r) / 2, by omega⟩
                have hc1 : st ≤ cc ∧ cc < r := by omega
                obtain ⟨pc, hpc⟩ : ∃ pc : Nat, (pp : Int) - (cc : Int) = (pc : Int) := ⟨pp - cc, by have := Hmd.out; omega⟩
                have hc0 : (0 : Int) ≤ (cc : Int) := Int.natCast_nonneg cc
                have hc2 : (cc : Int) < (n : Int) := by omega
                have hp0 : (0 : Int) ≤ (pc : Int) := Int.natCast_nonneg pc
                have hp2 : (pc : Int) < (n : Int) := by have := Hmd.out; omega
                obtain ⟨xc, hxc⟩ : ∃ x, xs[cc]? = some x := ⟨_, List.getElem?_eq_getElem (by rw [HY.out.len]; omega)⟩
                obtain ⟨xp, hxp⟩ : ∃ x, xs[pc]? = some x := ⟨_, List.getElem?_eq_getElem (by rw [HY.out.len]; omega)⟩
                have c0 := HY.out.cell hxc
                have c1 := HY.out.cell hxp
                have HQ := Lib.hid (HK.out.quiet (x := xp) (y := xc) (HX.out _ (List.mem_of_getElem? hxp)) (HX.out _ (List.mem_of_getElem? hxc)) HY.out.but)
                clear hxc hxp
                go_upto_region 35 with fail
                go_quiet (first | (refine Calls.quiet_of (HQ.out _)))
                have HY5 := Lib.hid (HY.out.drewN nq)
                generalize wr.drewN nq = W5 at *
                clear c0 c1 HQ HY
                by_cases hl : kf xp xc < 0
                · rw [decide_eq_true hl]
                  clear hl
                  go_wp2_with fail
                  go_roundg mk
                  case measure => omega
                  case rel => exact ⟨st, cc, by omega, hst, by omega, by omega, rfl, by go_num, HY5⟩
                · rw [decide_eq_false hl]
                  clear hl
                  go_wp2_with fail
                  go_roundg mk
                  case measure => omega
                  case rel => exact ⟨cc + 1, r, by omega, by omega, by omega, hrr, by go_num, rfl, HY5⟩
              · obtain ⟨en, hen⟩ : ∃ en : Nat, (nn : Int) - (st : Int) = (en : Int) := ⟨nn - st, by have := Hmd.out; omega⟩
                have HEn : Hid (en + st = nn ∧ en ≤ b ∧ st ≤ m ∧ st ≤ md ∧ a ≤ st ∧ nn = md + m) := Lib.hid (by have := Hmd.out; omega)
                go_upto_region 39 with fail
                go_cut [185] (fun s wx => s = .bool (decide ((st : Int) < (m : Int)) && decide ((m : Int) < (en : Int))) ∧ Hid (SortNow W0 wx base g c n xs))
                case first =>
                  as_aux_lemma =>
                    by_cases hr1 : (st : Int) < (m : Int)
                    · by_cases hr2 : (m : Int) < (en : Int)
                      · go_wp2_with fail
                        go_meet
                        exact ⟨by rw [decide_eq_true (by omega), decide_eq_true (by omega)]; rfl, HY⟩
                      · go_wp2_with fail
                        go_meet
                        exact ⟨by rw [decide_eq_true (by omega), decide_eq_false (by omega)]; rfl, HY⟩
                    · go_wp2_with fail
                      go_meet
                      exact ⟨by rw [decide_eq_false (by omega)]; rfl, HY⟩
                case rest =>
                  as_aux_lemma =>
                    clear HY
                    obtain ⟨rfl, HY⟩ := hcut
                    obtain ⟨bbA, hbbA⟩ : ∃ bb, (decide ((st : Int) < (m : Int)) && decide ((m : Int) < (en : Int))) = bb := ⟨_, rfl⟩
                    rw [hbbA]
                    have HbbA := Lib.hid hbbA
                    clear hbbA
                    go_upto_if 185 with fail
                    go_cut [] (fun wx => ∃ ys, Hid (ys.Perm xs) ∧ Hid (SortNow W0 wx base g c n ys))
                    case first =>
                      as_aux_lemma =>
                        cases bbA with
                        | false =>
                          go_wp2_with fail
                          go_meet
                          exact ⟨xs, (Lib.hid (List.Perm.refl xs)), HY⟩
                        | true =>
                          have hb := HbbA.out
                          rw [Bool.and_eq_true, decide_eq_true_eq, decide_eq_true_eq] at hb
                          obtain ⟨hr1, hr2⟩ := hb
                          have HRo := Lib.hid (rotate_any W0 base g c n xs st m en (.func (.func Fc) #[] cap) _ HY.out hn (by omega) (by omega) (by have := HEn.out; omega))
                          go_wp2_with fail
                          refine HRo.out.mono ?_
                          rintro e w1 ⟨rfl, zs, hp, hz⟩
                          have HZ := Lib.hid (And.intro hp hz)
                          clear hp hz
                          go_wp2_with fail
                          go_meet
                          exact ⟨zs, Lib.hid HZ.out.1, Lib.hid HZ.out.2⟩
                    case rest =>
                      as_aux_lemma =>
                        obtain ⟨ysA, HPA, HYA⟩ := hcut
                        go_upto_region 41 with fail
                        go_cut [199] (fun s wx => s = .bool (decide ((a : Int) < (st : Int)) && decide ((st : Int) < (md : Int))) ∧ Hid (SortNow W0 wx base g c n ysA))
                        case first =>
                          as_aux_lemma =>
                            by_cases hr1 : (a : Int) < (st : Int)
                            · by_cases hr2 : (st : Int) < (md : Int)
                              · go_wp2_with fail
                                go_meet
                                exact ⟨by rw [decide_eq_true (by omega), decide_eq_true (by omega)]; rfl, HYA⟩
                              · go_wp2_with fail
                                go_meet
                                exact ⟨by rw [decide_eq_true (by omega), decide_eq_false (by omega)]; rfl, HYA⟩
                            · go_wp2_with fail
                              go_meet
                              exact ⟨by rw [decide_eq_false (by omega)]; rfl, HYA⟩
                        case rest =>
                          as_aux_lemma =>
                            clear HYA
                            obtain ⟨rfl, HYA⟩ := hcut
                            obtain ⟨bbB, hbbB⟩ : ∃ bb, (decide ((a : Int) < (st : Int)) && decide ((st : Int) < (md : Int))) = bb := ⟨_, rfl⟩
                            rw [hbbB]
                            have HbbB := Lib.hid hbbB
                            clear hbbB
                            go_upto_if 199 with fail
                            go_cut [] (fun wx => ∃ ys, Hid (ys.Perm xs) ∧ Hid (SortNow W0 wx base g c n ys))
                            case first =>
                              as_aux_lemma =>
                                cases bbB with
                                | false =>
                                  go_wp2_with fail
                                  go_meet
                                  exact ⟨ysA, HPA, HYA⟩
                                | true =>
                                  have hb := HbbB.out
                                  rw [Bool.and_eq_true, decide_eq_true_eq, decide_eq_true_eq] at hb
                                  obtain ⟨hr1, hr2⟩ := hb
                                  have HRo := Lib.hid (HI.out a st md ysA _ (by have := Hmd.out; omega) HYA.out (fun x hx => HX.out x (HPA.out.mem_iff.1 hx)) (by omega) (by omega) (by have := Hmd.out; omega))
                                  go_wp2_with fail
                                  refine HRo.out.mono ?_
                                  rintro e w1 ⟨rfl, zs, hp, hz⟩
                                  have HZ := Lib.hid (And.intro (hp.trans HPA.out) hz)
                                  clear hp hz
                                  go_wp2_with fail
                                  go_meet
                                  exact ⟨zs, Lib.hid HZ.out.1, Lib.hid HZ.out.2⟩
                            case rest =>
                              as_aux_lemma =>
                                obtain ⟨ysB, HPB, HYB⟩ := hcut
                                go_upto_region 43 with fail
                                go_cut [213] (fun s wx => s = .bool (decide ((md : Int) < (en : Int)) && decide ((en : Int) < (b : Int))) ∧ Hid (SortNow W0 wx base g c n ysB))
                                case first =>
                                  as_aux_lemma =>
                                    by_cases hr1 : (md : Int) < (en : Int)
                                    · by_cases hr2 : (en : Int) < (b : Int)
                                      · go_wp2_with fail
                                        go_meet
                                        exact ⟨by rw [decide_eq_true (by omega), decide_eq_true (by omega)]; rfl, HYB⟩
                                      · go_wp2_with fail
                                        go_meet
                                        exact ⟨by rw [decide_eq_true (by omega), decide_eq_false (by omega)]; rfl, HYB⟩
                                    · go_wp2_with fail
                                      go_meet
                                      exact ⟨by rw [decide_eq_false (by omega)]; rfl, HYB⟩
                                case rest =>
                                  as_aux_lemma =>
                                    clear HYB
                                    obtain ⟨rfl, HYB⟩ := hcut
                                    obtain ⟨bbC, hbbC⟩ : ∃ bb, (decide ((md : Int) < (en : Int)) && decide ((en : Int) < (b : Int))) = bb := ⟨_, rfl⟩
                                    rw [hbbC]
                                    have HbbC := Lib.hid hbbC
                                    clear hbbC
                                    cases bbC with
                                    | false =>
                                      go_wp2_with fail
                                      go_end0
                                      exact ⟨rfl, ysB, HPB.out, HYB.out⟩
                                    | true =>
                                      have hb := HbbC.out
                                      rw [Bool.and_eq_true, decide_eq_true_eq, decide_eq_true_eq] at hb
                                      obtain ⟨hr1, hr2⟩ := hb
                                      have HRo := Lib.hid (HI.out md en b ysB _ (by have := Hmd.out; omega) HYB.out (fun x hx => HX.out x (HPB.out.mem_iff.1 hx)) (by omega) (by omega) (by omega))
                                      go_wp2_with fail
                                      refine HRo.out.mono ?_
                                      rintro e w1 ⟨rfl, zs, hp, hz⟩
                                      have HZ := Lib.hid (And.intro (hp.trans HPB.out) hz)
                                      clear hp hz
                                      go_wp2_with fail
                                      go_end0
                                      exact ⟨rfl, zs, HZ.out.1, HZ.out.2⟩
end Go.Proofs.YtkkllflbepcimaaDoor
