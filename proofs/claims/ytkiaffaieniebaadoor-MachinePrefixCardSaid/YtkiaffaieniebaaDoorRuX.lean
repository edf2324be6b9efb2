/-
  The law MachinePrefix walks to true.
  Conditions: the numbers are of 64 bits; the table shapes lies as its initialiser lays it.
-/
import Derived.Test.YtkiaffaieniebaaDoorRuV
import Derived.Deep.RegionHeld3
namespace Go.Proofs.YtkiaffaieniebaaDoor
open Go.RowKit

theorem IntsAt.take {w : World} {B l c k : Nat} {A : Option Addr} {xs : List Int} (h : IntsAt w B (.slice A l c) xs) (hk : k ≤ l) : IntsAt w B (.slice A k c) (xs.take k) := by
  obtain ⟨A', c', e, h1, h2, h3⟩ := h
  have hl : xs.length = l := by cases e; rfl
  cases e
  refine ⟨A, c, by rw [List.length_take, Nat.min_eq_left (by omega)], by rw [List.length_take]; omega, h2, fun hp => ?_⟩
  rw [List.length_take] at hp
  obtain ⟨b, off, e1, e2, e3⟩ := h3 (by omega)
  refine ⟨b, off, e1, e2, fun j x hj => e3 j x ?_⟩
  rw [List.getElem?_take] at hj
  split at hj
  · exact hj
  · cases hj
set_option maxRecDepth 100000 in
set_option maxHeartbeats 2000000 in
theorem MachinePrefix_any (va vb vc vi : Value) (la lb lc li : List Int) (fz mz : Int) (w : World) (ha : IntsAt w w.heap.size va la) (hb : IntsAt w w.heap.size vb lb) (hc : IntsAt w w.heap.size vc lc) (hi : IntsAt w w.heap.size vi li)
    (hia : ∀ x ∈ la, I64 x) (hib : ∀ x ∈ lb, I64 x) (hic : ∀ x ∈ lc, I64 x) (hf : I64 fz) (hm : I64 mz) (ht : Tab w) :
    Calls Tryd.prog 8 #[va, vb, vc, vi, .int .i64 fz, .int .i64 mz] w fun e w' => e = .returned (.bool true) ∧ Below w.heap.size w w' := by
  obtain ⟨n, hn⟩ : ∃ n : Nat, fz % 800 = n := ⟨(fz % 800).toNat, by omega⟩
  obtain ⟨m, hm'⟩ : ∃ k : Nat, mz % ((n : Int) + 1) = k := ⟨(mz % ((n : Int) + 1)).toNat, by have := Int.emod_nonneg mz (show (n : Int) + 1 ≠ 0 by omega); omega⟩
  have hn6 : n < 800 := by omega
  have hm6 : m ≤ n := by have := Int.emod_lt_of_pos mz (show (0 : Int) < (n : Int) + 1 by omega); omega
  have hx8 : (li.take 8).length ≤ 30 := by rw [List.length_take]; omega
  have HImg := Lib.hid (ImageOf_any va vb vc la lb lc 20 w ha hb hc hia hib hic (by omega))
  have HIn := Lib.hid hi
  have HLaw := Lib.hid (prefix_law (codes := imgC la lb lc 20) (s := beginS kGlobs (li.take 8)) n m hm6)
  have HRI : Hid (∀ (gv rv : Value) (W : World), GlobsAt W W.heap.size gv kGlobs → RoutsAt W W.heap.size rv (imgR la lb lc 20) → Tab W → ∀ (base : Nat) (iv : Value) (V : World) (n : Nat), n ≤ 900000 → Below W.heap.size W V → V.ownsRow base 3 1 iv (li.take 8).length (intV (li.take 8)) →
    Calls Tryd.prog 14 #[.agg #[gv, rv], iv, .int .i64 (n : Int)] V fun e w' => ∃ ov, e = .returned (runV (runS (imgC la lb lc 20) (beginS kGlobs (li.take 8)) n).told ov (0, 0)) ∧
      w'.ownsRow V.heap.size 3 1 ov (runS (imgC la lb lc 20) (beginS kGlobs (li.take 8)) n).told.out.length (intV (runS (imgC la lb lc 20) (beginS kGlobs (li.take 8)) n).told.out) ∧ Below V.heap.size V w') :=
    Lib.hid fun gv rv W h1 h2 h3 base iv V n hn hV hi => Run_img hia hib hic (by omega) h1 h2 h3 hx8 hn hV hi
  have HT := Lib.hid ht
  have HN := Lib.hid hn
  have HM := Lib.hid hm'
  have HF := Lib.hid (And.intro hf hm)
  obtain ⟨X, hX⟩ : ∃ X, (runS (imgC la lb lc 20) (beginS kGlobs (li.take 8)) n).told = X := ⟨_, rfl⟩
  obtain ⟨Y, hY⟩ : ∃ Y, (runS (imgC la lb lc 20) (beginS kGlobs (li.take 8)) m).told = Y := ⟨_, rfl⟩
  rw [hX, hY] at HLaw
  have HX := Lib.hid hX
  have HY := Lib.hid hY
  obtain ⟨xs, hxs⟩ : ∃ xs, li.take 8 = xs := ⟨_, rfl⟩
  have HXS := Lib.hid hxs
  rw [hxs] at HRI HX HY
  clear ha hb hc hi hia hib hic hf hm ht hn hm' hx8 hX hY hxs
  go_enter Tryd.func8, Tryd.ntmps8
  go_wp2_with fail
  refine HImg.out.mono ?_
  rintro e w1 ⟨gv, rv, rfl, hgr, hb1⟩
  obtain ⟨hg, hr⟩ := hgr w1 (Turn.refl _ _)
  obtain ⟨Ag, ng, cg, hgv⟩ : ∃ A n c, gv = .slice A n c := by obtain ⟨A, c, e, _⟩ := hg; exact ⟨A, _, c, e⟩
  obtain ⟨Ar, nr, cr, hrv⟩ : ∃ A n c, rv = .slice A n c := by obtain ⟨A, c, e, _⟩ := hr; exact ⟨A, _, c, e⟩
  subst hgv
  subst hrv
  have hA2 : Below w1.heap.size w1 (w1.alloc (.cells #[.slice Ag ng cg, .slice Ar nr cr] 36)) := (Below.refl _ _).alloc (Nat.le_refl _) _
  have HG3 := Lib.hid ((hg.below hA2 (Nat.le_refl _)).more hA2.size)
  have HR3 := Lib.hid ((hr.below hA2 (Nat.le_refl _)).more hA2.size)
  have HB3 := Lib.hid (hb1.trans (hA2.mono hb1.size))
  have HK3 := Lib.hid (Blk.new w1 36 #[.slice Ag ng cg, .slice Ar nr cr])
  clear hgr hg hr hb1 hA2
  go_upto_region 2 with fail
  generalize w1.alloc (.cells #[.slice Ag ng cg, .slice Ar nr cr] 36) = W at *
  have HRun := Lib.hid (HRI.out _ _ W HG3.out HR3.out (HT.out.own HB3.out))
  have HKz : Hid (w1.heap.size < W.heap.size) := Lib.hid HK3.out.lt
  generalize w1.heap.size = gi at *
  go_wp2_with fail
  refine (Picked_any fz 800 _ (by omega) (by omega) HF.out.1).mono ?_
  rintro e w' ⟨rfl, rfl⟩
  rw [HN.out]
  go_upto_region 3 with fail
  have HW0 : Hid (TwoRun ix3 (pv3 (.agg #[.slice Ag ng cg, .slice Ar nr cr]) vi (.int .i64 (n : Int))) W.heap.size W xs X (0, 0) (fun _ => none) { W with drawn := W.drawn + 1 }) := Lib.hid (TwoRun.start (below_drew (Below.refl _ _)) (Nat.le_refl _))
  have HNo : Hid (∀ j ∈ ix3.all, (pv3 (.agg #[.slice Ag ng cg, .slice Ar nr cr]) vi (.int .i64 (n : Int))) j = none) := Lib.hid (ix3_no _ _ _)
  have HP : Hid ((pv3 (.agg #[.slice Ag ng cg, .slice Ar nr cr]) vi (.int .i64 (n : Int))) 0 = some (.agg #[.slice Ag ng cg, .slice Ar nr cr]) ∧ (pv3 (.agg #[.slice Ag ng cg, .slice Ar nr cr]) vi (.int .i64 (n : Int))) 1 = some (vi) ∧ (pv3 (.agg #[.slice Ag ng cg, .slice Ar nr cr]) vi (.int .i64 (n : Int))) 3 = some (.int .i64 (n : Int))) := Lib.hid ⟨rfl, rfl, rfl⟩
  generalize pv3 (.agg #[.slice Ag ng cg, .slice Ar nr cr]) vi (.int .i64 (n : Int)) = pv at *
  refine wp_region_keeps (TwoRun ix3 pv W.heap.size W xs X (0, 0)) (by kernel_rfl) (by kernel_rfl) HW0.out ?_ ?_
  · refine ⟨⟨rfl, ?_⟩, ⟨rfl, ?_⟩, ⟨rfl, ?_⟩, ⟨rfl, ?_⟩, ⟨rfl, ?_⟩, ⟨rfl, ?_⟩, ⟨rfl, ?_⟩, ⟨rfl, ?_⟩, ⟨rfl, ?_⟩, ⟨rfl, ?_⟩, ⟨rfl, ?_⟩, ⟨rfl, ?_⟩, trivial⟩
    all_goals
      intro σ vs w' hvs hcl hC hk hdep
      simp only [putO, Act.put, List.setIfInBounds_toArray, List.set_cons_succ, List.set_cons_zero, Nat.reduceAdd]
      have HC := Lib.hid hC
      have HD := Lib.hid hdep
      have HL := Lib.hid hcl
      have HS := Lib.hid hk
      clear hC hdep hcl hk hvs
    · have hk := HK3.out.below HC.out.low.1 HKz.out
      have c0 := hk.cell 0
      have c1 := hk.cell 1
      clear hk
      go_simp
      exact HC.out.known HP.out.1 HNo.out
    · go_simp
      exact HC.out.known HP.out.2.1 HNo.out
    · rw [HC.out.val (HD.out ⟨1, .data⟩ (by simp) rfl) HP.out.2.1]
      go_simp
      have hb0 := HB3.out.trans (HC.out.low.1.mono HB3.out.size)
      refine (Input_any vi li w' ((HIn.out.below hb0 (Nat.le_refl _)).more hb0.size)).mono ?_
      rintro e w2 ⟨u, rfl, hu, hb⟩
      rw [HXS.out] at hu
      exact ⟨u, rfl, HC.out.input ix3_apart HNo.out hb hu⟩
    · go_simp
      exact HC.out.known HP.out.2.2 HNo.out
    · rw [HC.out.val (HD.out ⟨0, .data⟩ (by simp) rfl) HP.out.1, HC.out.val (HD.out ⟨3, .data⟩ (by simp) rfl) HP.out.2.2]
      have hi := HC.out.isInput (HD.out ⟨2, .data⟩ (by simp) rfl)
      have hcall := HRun.out _ _ w' n (by omega) ((Below.refl W.heap.size W).trans (HC.out.low.1.mono (Below.refl W.heap.size W).size)) hi
      rw [HX.out] at hcall
      have HCall := Lib.hid hcall
      clear hcall hi
      go_simp
      refine HCall.out.mono ?_
      rintro e w2 ⟨ov, rfl, h1, h2⟩
      have n5 := not_done HL.out HS.out (j := 5) rfl rfl
      have n6 := not_done HL.out n5 (j := 6) rfl rfl
      exact ⟨_, rfl, HC.out.run ix3_apart HNo.out h2 h1 n5 n6 (not_done HL.out n6 (j := 10) rfl rfl)⟩
    · go_simp
      exact HC.out.copy ix3_apart HNo.out (HD.out ⟨4, .data⟩ (by simp) rfl)
    · obtain ⟨ov, e⟩ := HC.out.isCopy (HD.out ⟨5, .data⟩ (by simp) rfl)
      rw [e]
      have h := HD.out ⟨5, .data⟩ (by simp) rfl
      rw [show vs (⟨5, .data⟩ : Edge).on = vs 5 from rfl, e] at h
      have HH := Lib.hid h
      clear h e
      unfold runV
      go_simp
      exact HC.out.out1 ix3_apart HNo.out HH.out
    · obtain ⟨ov, e⟩ := HC.out.isCopy (HD.out ⟨5, .data⟩ (by simp) rfl)
      rw [e]
      clear e
      unfold runV
      go_simp
      exact HC.out.out2 ix3_apart HNo.out
    · go_simp
      exact HC.out.var1 ix3_apart HNo.out (not_done HL.out HS.out (j := 10) rfl rfl)
    · go_simp
      exact HC.out.var2 ix3_apart HNo.out (not_done HL.out HS.out (j := 11) rfl rfl)
    · obtain ⟨ov, g, ⟨A, l, c, rfl⟩, e1, e2, hk, h⟩ := HC.out.store1 ix3_apart HNo.out (HD.out ⟨8, .data⟩ (by simp) rfl) (HD.out ⟨6, .data⟩ (by simp) rfl) (HD.out ⟨4, .chain⟩ (by simp) rfl) HS.out
      rw [e1, e2]
      have H := Lib.hid h
      have f0 := hk.frozen 0
      have f1 := hk.frozen 1
      have f2 := hk.frozen 2
      have f3 := hk.frozen 3
      have d0 : w'.cell? ⟨g, 0, none⟩ = some (.int .i64 0) := hk.cell 0
      have d1 : w'.cell? ⟨g, 1, none⟩ = some (.int .i64 0) := hk.cell 1
      have d2 : w'.cell? ⟨g, 2, none⟩ = some (.slice none 0 0) := hk.cell 2
      have d3 : w'.cell? ⟨g, 3, none⟩ = some (.int .i64 0) := hk.cell 3
      clear h hk e1 e2
      unfold outV ptrV
      go_simp
      exact H.out
    · obtain ⟨g, e1, e2, hk, h⟩ := HC.out.store2 ix3_apart HNo.out (HD.out ⟨9, .data⟩ (by simp) rfl) (HD.out ⟨7, .data⟩ (by simp) rfl) HS.out
      rw [e1, e2]
      have H := Lib.hid h
      have f0 := hk.frozen 0
      have f1 := hk.frozen 1
      have d0 : w'.cell? ⟨g, 0, none⟩ = some (.int .i64 0) := hk.cell 0
      have d1 : w'.cell? ⟨g, 1, none⟩ = some (.int .i64 0) := hk.cell 1
      clear h hk e1 e2
      unfold faultV ptrV
      go_simp
      exact H.out
  intro σ vs w4 hC hall
  obtain ⟨ox, gx, gf, e1, e2, hkx, hkf, hgx, hgf, hox, hb4⟩ := hC.done (hall 8 (by decide)) (hall 9 (by decide)) (hall 10 (by decide)) (hall 11 (by decide)) (hall 4 (by decide))
  simp only [putO, Act.put, List.setIfInBounds_toArray, List.set_cons_succ, List.set_cons_zero, Nat.reduceAdd]
  rw [show vs 8 = ptrV gx from e1, show vs 9 = ptrV gf from e2]
  have HKx := Lib.hid hkx
  have HFx := Lib.hid hkf
  have HOx := Lib.hid hox
  have HBx := Lib.hid hb4
  have HGx := Lib.hid (And.intro hgx hgf)
  generalize vs 0 = sx0 at *
  generalize vs 1 = sx1 at *
  generalize vs 2 = sx2 at *
  generalize vs 3 = sx3 at *
  generalize vs 4 = sx4 at *
  generalize vs 5 = sx5 at *
  generalize vs 6 = sx6 at *
  generalize vs 7 = sx7 at *
  clear hC hall e1 e2 hkx hkf hgx hgf hox hb4 HP HNo HW0
  unfold ptrV
  have HK4 := Lib.hid (HK3.out.below HBx.out HKz.out)
  have HK4z : Hid (gi < w4.heap.size) := Lib.hid HK4.out.lt
  have HB4 := Lib.hid (HB3.out.trans (HBx.out.mono HB3.out.size))
  go_upto_region 4 with fail
  have HW0 : Hid (TwoRun ix4 (pv4 (.agg #[.slice Ag ng cg, .slice Ar nr cr]) vi (.int .i64 mz) (.int .i64 (n : Int)) (.int .i64 ((n : Int) + 1)) (.int .i64 (m : Int))) w4.heap.size w4 xs Y (0, 0) (fun _ => none) { w4 with drawn := w4.drawn + 1 }) := Lib.hid (TwoRun.start (below_drew (Below.refl _ _)) (Nat.le_refl _))
  have HNo : Hid (∀ j ∈ ix4.all, (pv4 (.agg #[.slice Ag ng cg, .slice Ar nr cr]) vi (.int .i64 mz) (.int .i64 (n : Int)) (.int .i64 ((n : Int) + 1)) (.int .i64 (m : Int))) j = none) := Lib.hid (ix4_no _ _ _ _ _ _)
  have HP : Hid ((pv4 (.agg #[.slice Ag ng cg, .slice Ar nr cr]) vi (.int .i64 mz) (.int .i64 (n : Int)) (.int .i64 ((n : Int) + 1)) (.int .i64 (m : Int))) 0 = some (.agg #[.slice Ag ng cg, .slice Ar nr cr]) ∧ (pv4 (.agg #[.slice Ag ng cg, .slice Ar nr cr]) vi (.int .i64 mz) (.int .i64 (n : Int)) (.int .i64 ((n : Int) + 1)) (.int .i64 (m : Int))) 1 = some (vi) ∧ (pv4 (.agg #[.slice Ag ng cg, .slice Ar nr cr]) vi (.int .i64 mz) (.int .i64 (n : Int)) (.int .i64 ((n : Int) + 1)) (.int .i64 (m : Int))) 3 = some (.int .i64 mz) ∧ (pv4 (.agg #[.slice Ag ng cg, .slice Ar nr cr]) vi (.int .i64 mz) (.int .i64 (n : Int)) (.int .i64 ((n : Int) + 1)) (.int .i64 (m : Int))) 4 = some (.int .i64 (n : Int)) ∧ (pv4 (.agg #[.slice Ag ng cg, .slice Ar nr cr]) vi (.int .i64 mz) (.int .i64 (n : Int)) (.int .i64 ((n : Int) + 1)) (.int .i64 (m : Int))) 5 = some (.int .i64 ((n : Int) + 1)) ∧ (pv4 (.agg #[.slice Ag ng cg, .slice Ar nr cr]) vi (.int .i64 mz) (.int .i64 (n : Int)) (.int .i64 ((n : Int) + 1)) (.int .i64 (m : Int))) 6 = some (.int .i64 (m : Int))) := Lib.hid ⟨rfl, rfl, rfl, rfl, rfl, rfl⟩
  generalize pv4 (.agg #[.slice Ag ng cg, .slice Ar nr cr]) vi (.int .i64 mz) (.int .i64 (n : Int)) (.int .i64 ((n : Int) + 1)) (.int .i64 (m : Int)) = pv at *
  refine wp_region_keeps (TwoRun ix4 pv w4.heap.size w4 xs Y (0, 0)) (by kernel_rfl) (by kernel_rfl) HW0.out ?_ ?_
  · refine ⟨⟨rfl, ?_⟩, ⟨rfl, ?_⟩, ⟨rfl, ?_⟩, ⟨rfl, ?_⟩, ⟨rfl, ?_⟩, ⟨rfl, ?_⟩, ⟨rfl, ?_⟩, ⟨rfl, ?_⟩, ⟨rfl, ?_⟩, ⟨rfl, ?_⟩, ⟨rfl, ?_⟩, ⟨rfl, ?_⟩, ⟨rfl, ?_⟩, ⟨rfl, ?_⟩, ⟨rfl, ?_⟩, trivial⟩
    all_goals
      intro σ vs w' hvs hcl hC hk hdep
      simp only [putO, Act.put, List.setIfInBounds_toArray, List.set_cons_succ, List.set_cons_zero, Nat.reduceAdd]
      have HC := Lib.hid hC
      have HD := Lib.hid hdep
      have HL := Lib.hid hcl
      have HS := Lib.hid hk
      clear hC hdep hcl hk hvs
    · have hk := HK4.out.below HC.out.low.1 HK4z.out
      have c0 := hk.cell 0
      have c1 := hk.cell 1
      clear hk
      go_simp
      exact HC.out.known HP.out.1 HNo.out
    · go_simp
      exact HC.out.known HP.out.2.1 HNo.out
    · rw [HC.out.val (HD.out ⟨1, .data⟩ (by simp) rfl) HP.out.2.1]
      go_simp
      have hb0 := HB4.out.trans (HC.out.low.1.mono HB4.out.size)
      refine (Input_any vi li w' ((HIn.out.below hb0 (Nat.le_refl _)).more hb0.size)).mono ?_
      rintro e w2 ⟨u, rfl, hu, hb⟩
      rw [HXS.out] at hu
      exact ⟨u, rfl, HC.out.input ix4_apart HNo.out hb hu⟩
    · go_simp
      exact HC.out.known HP.out.2.2.1 HNo.out
    · go_simp
      exact HC.out.known HP.out.2.2.2.1 HNo.out
    · rw [HC.out.val (HD.out ⟨4, .data⟩ (by simp) rfl) HP.out.2.2.2.1]
      have hw : IntKind.i64.wrap ((n : Int) + 1) = (n : Int) + 1 := by rw [IntKind.wrap_i64]; omega
      go_simp
      exact HC.out.known HP.out.2.2.2.2.1 HNo.out
    · rw [HC.out.val (HD.out ⟨3, .data⟩ (by simp) rfl) HP.out.2.2.1, HC.out.val (HD.out ⟨5, .data⟩ (by simp) rfl) HP.out.2.2.2.2.1]
      go_simp
      refine (Picked_any mz ((n : Int) + 1) _ (by omega) (by omega) HF.out.2).mono ?_
      rintro e w2 ⟨rfl, rfl⟩
      exact ⟨_, rfl, by rw [HM.out]; exact HC.out.known HP.out.2.2.2.2.2 HNo.out⟩
    · rw [HC.out.val (HD.out ⟨0, .data⟩ (by simp) rfl) HP.out.1, HC.out.val (HD.out ⟨6, .data⟩ (by simp) rfl) HP.out.2.2.2.2.2]
      have hi := HC.out.isInput (HD.out ⟨2, .data⟩ (by simp) rfl)
      have hcall := HRun.out _ _ w' m (by omega) (HBx.out.trans (HC.out.low.1.mono HBx.out.size)) hi
      rw [HY.out] at hcall
      have HCall := Lib.hid hcall
      clear hcall hi
      go_simp
      refine HCall.out.mono ?_
      rintro e w2 ⟨ov, rfl, h1, h2⟩
      have n5 := not_done HL.out HS.out (j := 8) rfl rfl
      have n6 := not_done HL.out n5 (j := 9) rfl rfl
      exact ⟨_, rfl, HC.out.run ix4_apart HNo.out h2 h1 n5 n6 (not_done HL.out n6 (j := 13) rfl rfl)⟩
    · go_simp
      exact HC.out.copy ix4_apart HNo.out (HD.out ⟨7, .data⟩ (by simp) rfl)
    · obtain ⟨ov, e⟩ := HC.out.isCopy (HD.out ⟨8, .data⟩ (by simp) rfl)
      rw [e]
      have h := HD.out ⟨8, .data⟩ (by simp) rfl
      rw [show vs (⟨8, .data⟩ : Edge).on = vs 8 from rfl, e] at h
      have HH := Lib.hid h
      clear h e
      unfold runV
      go_simp
      exact HC.out.out1 ix4_apart HNo.out HH.out
    · obtain ⟨ov, e⟩ := HC.out.isCopy (HD.out ⟨8, .data⟩ (by simp) rfl)
      rw [e]
      clear e
      unfold runV
      go_simp
      exact HC.out.out2 ix4_apart HNo.out
    · go_simp
      exact HC.out.var1 ix4_apart HNo.out (not_done HL.out HS.out (j := 13) rfl rfl)
    · go_simp
      exact HC.out.var2 ix4_apart HNo.out (not_done HL.out HS.out (j := 14) rfl rfl)
    · obtain ⟨ov, g, ⟨A, l, c, rfl⟩, e1, e2, hk, h⟩ := HC.out.store1 ix4_apart HNo.out (HD.out ⟨11, .data⟩ (by simp) rfl) (HD.out ⟨9, .data⟩ (by simp) rfl) (HD.out ⟨7, .chain⟩ (by simp) rfl) HS.out
      rw [e1, e2]
      have H := Lib.hid h
      have f0 := hk.frozen 0
      have f1 := hk.frozen 1
      have f2 := hk.frozen 2
      have f3 := hk.frozen 3
      have d0 : w'.cell? ⟨g, 0, none⟩ = some (.int .i64 0) := hk.cell 0
      have d1 : w'.cell? ⟨g, 1, none⟩ = some (.int .i64 0) := hk.cell 1
      have d2 : w'.cell? ⟨g, 2, none⟩ = some (.slice none 0 0) := hk.cell 2
      have d3 : w'.cell? ⟨g, 3, none⟩ = some (.int .i64 0) := hk.cell 3
      clear h hk e1 e2
      unfold outV ptrV
      go_simp
      exact H.out
    · obtain ⟨g, e1, e2, hk, h⟩ := HC.out.store2 ix4_apart HNo.out (HD.out ⟨12, .data⟩ (by simp) rfl) (HD.out ⟨10, .data⟩ (by simp) rfl) HS.out
      rw [e1, e2]
      have H := Lib.hid h
      have f0 := hk.frozen 0
      have f1 := hk.frozen 1
      have d0 : w'.cell? ⟨g, 0, none⟩ = some (.int .i64 0) := hk.cell 0
      have d1 : w'.cell? ⟨g, 1, none⟩ = some (.int .i64 0) := hk.cell 1
      clear h hk e1 e2
      unfold faultV ptrV
      go_simp
      exact H.out
  intro σ vs w5 hC hall
  obtain ⟨oy, gy, gh, e1, e2, hkx, hkf, hgx, hgf, hox, hb4⟩ := hC.done (hall 11 (by decide)) (hall 12 (by decide)) (hall 13 (by decide)) (hall 14 (by decide)) (hall 7 (by decide))
  simp only [putO, Act.put, List.setIfInBounds_toArray, List.set_cons_succ, List.set_cons_zero, Nat.reduceAdd]
  rw [show vs 11 = ptrV gy from e1, show vs 12 = ptrV gh from e2]
  have HKy := Lib.hid hkx
  have HFy := Lib.hid hkf
  have HOy := Lib.hid hox
  have HBy := Lib.hid hb4
  have HGy := Lib.hid (And.intro hgx hgf)
  generalize vs 0 = sy0 at *
  generalize vs 1 = sy1 at *
  generalize vs 2 = sy2 at *
  generalize vs 3 = sy3 at *
  generalize vs 4 = sy4 at *
  generalize vs 5 = sy5 at *
  generalize vs 6 = sy6 at *
  generalize vs 7 = sy7 at *
  generalize vs 8 = sy8 at *
  generalize vs 9 = sy9 at *
  generalize vs 10 = sy10 at *
  clear hC hall e1 e2 hkx hkf hgx hgf hox hb4 HP HNo HW0
  unfold ptrV
  have HKx5 := Lib.hid (HKx.out.below HBy.out HKx.out.lt)
  have HFx5 := Lib.hid (HFx.out.below HBy.out HFx.out.lt)
  have HOx5 := Lib.hid (row_lt HOx.out HBy.out)
  have HB5 := Lib.hid (HB4.out.trans (HBy.out.mono HB4.out.size))
  have HTB := Lib.hid (HT.out.own HB5.out)
  clear HKx HFx HOx HBx HGx HGy HK3 HK4 HKz HK4z HRun HG3 HR3 HB3 HRI HImg HX HY HT HF HIn HN HM HXS
  obtain ⟨l1, l2⟩ := HLaw.out
  obtain ⟨lx, hlx⟩ : ∃ l, X.out.length = l := ⟨_, rfl⟩
  obtain ⟨ly, hly⟩ : ∃ l, Y.out.length = l := ⟨_, rfl⟩
  have hix := row_ints HOx5.out rfl
  have hiy := row_ints HOy.out rfl
  obtain ⟨Ax, cx, hox, hcx, hcx2, _⟩ := id hix
  obtain ⟨Ay, cy, hoy, hcy, hcy2, _⟩ := id hiy
  subst hox
  subst hoy
  rw [hlx] at hix HKx5 HOx5 l1 hcx
  rw [hly] at hiy HKy l1 l2 hcy HOy
  have HIx := Lib.hid (hix.take l1)
  rw [← l2] at HIx
  have HIy := Lib.hid hiy
  have b0 : w5.cell? ⟨gf, 0, none⟩ = some (.int .i64 0) := HFx5.out.cell 0
  have b1 : w5.cell? ⟨gh, 0, none⟩ = some (.int .i64 0) := HFy.out.cell 0
  have a2 : w5.cell? ⟨gx, 2, none⟩ = some (.slice Ax lx cx) := HKx5.out.cell 2
  have c2 : w5.cell? ⟨gy, 2, none⟩ = some (.slice Ay ly cy) := HKy.out.cell 2
  have hq1 : (ly : Int) ≤ (lx : Int) := by omega
  have hq2 : ly ≤ cx := by omega
  have hq3 : (ly : Int) ≤ (cx : Int) := by omega
  clear hix hiy l1 l2 hlx hly HLaw HOx5 HOy HBy
  go_upto_region 5 with fail
  · go_region_held3 (fun w' => w'.cell? ⟨gf, 0, none⟩ = some (.int .i64 0) ∧ w'.cell? ⟨gh, 0, none⟩ = some (.int .i64 0) ∧ w'.cell? ⟨gx, 2, none⟩ = some (.slice Ax lx cx) ∧ w'.cell? ⟨gy, 2, none⟩ = some (.slice Ay ly cy)) (first | go_keep | (go_split_ands; refine ⟨?_, ?_, ?_, ?_⟩ <;> assumption))
      (first
        | (go_at_call 23; refine (Sure_any _ (HTB.out.own (below_drew (Below.refl _ _)))).mono ?_; rintro e w6 ⟨rfl, hb6⟩; have HB6 := Lib.hid (Below.trans (below_drew (Below.refl w5.heap.size w5)) hb6); have b0 : w6.cell? ⟨gf, 0, none⟩ = some (.int .i64 0) := (HFx5.out.below HB6.out HFx5.out.lt).cell 0; have b1 : w6.cell? ⟨gh, 0, none⟩ = some (.int .i64 0) := (HFy.out.below HB6.out HFy.out.lt).cell 0; have a2 : w6.cell? ⟨gx, 2, none⟩ = some (.slice Ax lx cx) := (HKx5.out.below HB6.out HKx5.out.lt).cell 2; have c2 : w6.cell? ⟨gy, 2, none⟩ = some (.slice Ay ly cy) := (HKy.out.below HB6.out HKy.out.lt).cell 2; clear hb6)
        | (go_at_call 24; refine (Ints_any _ _ Y.out Y.out _ ((HIy.out.below HB6.out (Nat.le_refl _)).more HB6.out.size) ((HIx.out.below HB6.out (Nat.le_refl _)).more HB6.out.size)).mono ?_; rintro e w7 ⟨rfl, hb7⟩; rw [show decide (Y.out = Y.out) = true from decide_eq_true rfl]; have HB7 := Lib.hid (HB6.out.trans (hb7.mono HB6.out.size)); have b0 : w7.cell? ⟨gf, 0, none⟩ = some (.int .i64 0) := (HFx5.out.below HB7.out HFx5.out.lt).cell 0; have b1 : w7.cell? ⟨gh, 0, none⟩ = some (.int .i64 0) := (HFy.out.below HB7.out HFy.out.lt).cell 0; have a2 : w7.cell? ⟨gx, 2, none⟩ = some (.slice Ax lx cx) := (HKx5.out.below HB7.out HKx5.out.lt).cell 2; have c2 : w7.cell? ⟨gy, 2, none⟩ = some (.slice Ay ly cy) := (HKy.out.below HB7.out HKy.out.lt).cell 2; clear hb7))
    all_goals
      go_wp2_with fail
      go_ret
      exact ⟨rfl, HB5.out.trans (HB7.out.mono HB5.out.size)⟩
end Go.Proofs.YtkiaffaieniebaaDoor
