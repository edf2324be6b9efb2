/-
  The law MachineFuel walks to true.
  Conditions: the numbers are of 64 bits; the table shapes lies as its initialiser lays it.
-/
import Derived.Test.YtkiaffaieniebaaDoorRuU
import Derived.Test.YtkiaffaieniebaaDoorRuW
import Derived.Test.YtkiaffaieniebaaDoorRuS
namespace Go.Proofs.YtkiaffaieniebaaDoor
open Go.RowKit

/-- Running the image of raw numbers, in every later world. -/
theorem Run_img {la lb lc : List Int} {k : Nat} {gv rv : Value} {W : World} (ha : ∀ x ∈ la, I64 x) (hb : ∀ x ∈ lb, I64 x) (hc : ∀ x ∈ lc, I64 x) (hk : k ≤ 1000)
    (hg : GlobsAt W W.heap.size gv kGlobs) (hr : RoutsAt W W.heap.size rv (imgR la lb lc k)) (ht : Tab W) {xs : List Int} (hx : xs.length ≤ 30) {base : Nat} {iv : Value} {V : World} {n : Nat} (hn : n ≤ 900000)
    (hV : Below W.heap.size W V) (hi : V.ownsRow base 3 1 iv xs.length (intV xs)) :
    Calls Tryd.prog 14 #[.agg #[gv, rv], iv, .int .i64 (n : Int)] V fun e w' => ∃ ov, e = .returned (runV (runS (imgC la lb lc k) (beginS kGlobs xs) n).told ov (0, 0)) ∧
      w'.ownsRow V.heap.size 3 1 ov (runS (imgC la lb lc k) (beginS kGlobs xs) n).told.out.length (intV (runS (imgC la lb lc k) (beginS kGlobs xs) n).told.out) ∧ Below V.heap.size V w' := by
  obtain ⟨q1, q2, _⟩ := img_run ha hb hc hk hx hn
  have hcall := Run_any gv rv iv kGlobs (imgR la lb lc k) xs (n : Int) V ((hg.below hV (Nat.le_refl _)).more hV.size) ((hr.below hV (Nat.le_refl _)).more hV.size) (row_ints hi rfl) kGlobs_ok (img_rok ha hb hc hk) (ht.own hV)
  rw [q1, q2] at hcall
  refine hcall.mono ?_
  rintro e w' ⟨ov, rfl, h1, h2⟩
  exact ⟨ov, rfl, h1, h2⟩
def ix3 : Ix := ⟨2, 4, 5, 6, 7, 8, 9, 10, 11⟩
def pv3 (a b c : Value) : Nat → Option Value
  | 0 => some a
  | 1 => some b
  | 3 => some c
  | _ => none
theorem ix3_no (a b c : Value) : ∀ j ∈ ix3.all, pv3 a b c j = none := by
  intro j hj
  simp only [ix3, Ix.all, List.mem_cons, List.not_mem_nil, or_false] at hj
  rcases hj with rfl | rfl | rfl | rfl | rfl | rfl | rfl | rfl | rfl <;> rfl
theorem ix3_apart : ix3.all.Nodup := by decide
def ix4 : Ix := ⟨2, 7, 8, 9, 10, 11, 12, 13, 14⟩
def pv4 (a b c d e f : Value) : Nat → Option Value
  | 0 => some a
  | 1 => some b
  | 3 => some c
  | 4 => some d
  | 5 => some e
  | 6 => some f
  | _ => none
theorem ix4_no (a b c d e f : Value) : ∀ j ∈ ix4.all, pv4 a b c d e f j = none := by
  intro j hj
  simp only [ix4, Ix.all, List.mem_cons, List.not_mem_nil, or_false] at hj
  rcases hj with rfl | rfl | rfl | rfl | rfl | rfl | rfl | rfl | rfl <;> rfl
theorem ix4_apart : ix4.all.Nodup := by decide
theorem TwoRun.val {x : Ix} {pv : Nat → Option Value} {base : Nat} {w0 : World} {xs : List Int} {s : Mch} {f : Int × Int} {σ : Nat → Option Value} {w : World} (h : TwoRun x pv base w0 xs s f σ w) {j : Nat} {u v : Value} (hu : σ j = some u) (hv : pv j = some v) : u = v := by
  obtain ⟨ov, g1, g2, h1, hz, h2, _⟩ := h
  exact h2 j v hv u hu
set_option maxRecDepth 100000 in
set_option maxHeartbeats 2000000 in
theorem MachineFuel_any (va vb vc vi : Value) (la lb lc li : List Int) (fz mz : Int) (w : World) (ha : IntsAt w w.heap.size va la) (hb : IntsAt w w.heap.size vb lb) (hc : IntsAt w w.heap.size vc lc) (hi : IntsAt w w.heap.size vi li)
    (hia : ∀ x ∈ la, I64 x) (hib : ∀ x ∈ lb, I64 x) (hic : ∀ x ∈ lc, I64 x) (hf : I64 fz) (hm : I64 mz) (ht : Tab w) :
    Calls Tryd.prog 7 #[va, vb, vc, vi, .int .i64 fz, .int .i64 mz] w fun e w' => e = .returned (.bool true) ∧ Below w.heap.size w w' := by
  obtain ⟨n, hn⟩ : ∃ n : Nat, fz % 600 = n := ⟨(fz % 600).toNat, by omega⟩
  obtain ⟨m, hm'⟩ : ∃ n : Nat, mz % 600 = n := ⟨(mz % 600).toNat, by omega⟩
  have hn6 : n < 600 := by omega
  have hm6 : m < 600 := by omega
  have hx8 : (li.take 8).length ≤ 30 := by rw [List.length_take]; omega
  have HImg := Lib.hid (ImageOf_any va vb vc la lb lc 20 w ha hb hc hia hib hic (by omega))
  have HIn := Lib.hid hi
  obtain ⟨_, _, hgc, hgs⟩ := img_run (n := 20) (fuel := 0) hia hib hic (by omega) hx8 (by omega)
  have HLaw := Lib.hid (fuel_law hgc hgs rfl rfl rfl rfl n m)
  have HRI : Hid (∀ (gv rv : Value) (W : World), GlobsAt W W.heap.size gv kGlobs → RoutsAt W W.heap.size rv (imgR la lb lc 20) → Tab W → ∀ (base : Nat) (iv : Value) (V : World) (n : Nat), n ≤ 900000 → Below W.heap.size W V → V.ownsRow base 3 1 iv (li.take 8).length (intV (li.take 8)) →
    Calls Tryd.prog 14 #[.agg #[gv, rv], iv, .int .i64 (n : Int)] V fun e w' => ∃ ov, e = .returned (runV (runS (imgC la lb lc 20) (beginS kGlobs (li.take 8)) n).told ov (0, 0)) ∧
      w'.ownsRow V.heap.size 3 1 ov (runS (imgC la lb lc 20) (beginS kGlobs (li.take 8)) n).told.out.length (intV (runS (imgC la lb lc 20) (beginS kGlobs (li.take 8)) n).told.out) ∧ Below V.heap.size V w') :=
    Lib.hid fun gv rv W h1 h2 h3 base iv V n hn hV hi => Run_img hia hib hic (by omega) h1 h2 h3 hx8 hn hV hi
  have HT := Lib.hid ht
  have HN := Lib.hid hn
  have HM := Lib.hid hm'
  have HF := Lib.hid (And.intro hf hm)
  obtain ⟨X, hX⟩ : ∃ X, (runS (imgC la lb lc 20) (beginS kGlobs (li.take 8)) n).told = X := ⟨_, rfl⟩
  obtain ⟨Y, hY⟩ : ∃ Y, (runS (imgC la lb lc 20) (beginS kGlobs (li.take 8)) (n + m)).told = Y := ⟨_, rfl⟩
  rw [hX, hY] at HLaw
  have HX := Lib.hid hX
  have HY := Lib.hid hY
  obtain ⟨xs, hxs⟩ : ∃ xs, li.take 8 = xs := ⟨_, rfl⟩
  have HXS := Lib.hid hxs
  rw [hxs] at HRI HX HY
  clear ha hb hc hi hia hib hic hf hm ht hn hm' hx8 hgc hgs hX hY hxs
  go_enter Tryd.func7, Tryd.ntmps7
  go_wp2_with fail
  refine HImg.out.mono ?_
  rintro e w1 ⟨gv, rv, rfl, hgr, hb1⟩
  obtain ⟨hg, hr⟩ := hgr w1 (Turn.refl _ _)
  obtain ⟨Ag, ng, cg, hgv⟩ : ∃ A n c, gv = .slice A n c := by obtain ⟨A, c, e, _⟩ := hg; exact ⟨A, _, c, e⟩
  obtain ⟨Ar, nr, cr, hrv⟩ : ∃ A n c, rv = .slice A n c := by obtain ⟨A, c, e, _⟩ := hr; exact ⟨A, _, c, e⟩
  subst hgv
  subst hrv
  have hA2 : Below w1.heap.size w1 (w1.alloc (.cells #[.slice Ag ng cg, .slice Ar nr cr] 36)) := (Below.refl _ _).alloc (Nat.le_refl _) _
  have HG3 := Lib.hid ((hg.below hA2 (Nat.le_refl _)).more hA2.size)
  have HR3 := Lib.hid ((hr.below hA2 (Nat.le_refl _)).more hA2.size)
  have HB3 := Lib.hid (hb1.trans (hA2.mono hb1.size))
  have HK3 := Lib.hid (Blk.new w1 36 #[.slice Ag ng cg, .slice Ar nr cr])
  clear hgr hg hr hb1 hA2
  go_upto_region 2 with fail
  generalize w1.alloc (.cells #[.slice Ag ng cg, .slice Ar nr cr] 36) = W at *
  have HRun := Lib.hid (HRI.out _ _ W HG3.out HR3.out (HT.out.own HB3.out))
  have HKz : Hid (w1.heap.size < W.heap.size) := Lib.hid HK3.out.lt
  generalize w1.heap.size = gi at *
  go_wp2_with fail
  refine (Picked_any fz 600 _ (by omega) (by omega) HF.out.1).mono ?_
  rintro e w' ⟨rfl, rfl⟩
  rw [HN.out]
  go_upto_region 3 with fail
  have HW0 : Hid (TwoRun ix3 (pv3 (.agg #[.slice Ag ng cg, .slice Ar nr cr]) vi (.int .i64 (n : Int))) W.heap.size W xs X (0, 0) (fun _ => none) { W with drawn := W.drawn + 1 }) := Lib.hid (TwoRun.start (below_drew (Below.refl _ _)) (Nat.le_refl _))
  have HNo : Hid (∀ j ∈ ix3.all, (pv3 (.agg #[.slice Ag ng cg, .slice Ar nr cr]) vi (.int .i64 (n : Int))) j = none) := Lib.hid (ix3_no _ _ _)
  have HP : Hid ((pv3 (.agg #[.slice Ag ng cg, .slice Ar nr cr]) vi (.int .i64 (n : Int))) 0 = some (.agg #[.slice Ag ng cg, .slice Ar nr cr]) ∧ (pv3 (.agg #[.slice Ag ng cg, .slice Ar nr cr]) vi (.int .i64 (n : Int))) 1 = some (vi) ∧ (pv3 (.agg #[.slice Ag ng cg, .slice Ar nr cr]) vi (.int .i64 (n : Int))) 3 = some (.int .i64 (n : Int))) := Lib.hid ⟨rfl, rfl, rfl⟩
  generalize pv3 (.agg #[.slice Ag ng cg, .slice Ar nr cr]) vi (.int .i64 (n : Int)) = pv at *
  refine wp_region_keeps (TwoRun ix3 pv W.heap.size W xs X (0, 0)) (by kernel_rfl) (by kernel_rfl) HW0.out ?_ ?_
  · refine ⟨⟨rfl, ?_⟩, ⟨rfl, ?_⟩, ⟨rfl, ?_⟩, ⟨rfl, ?_⟩, ⟨rfl, ?_⟩, ⟨rfl, ?_⟩, ⟨rfl, ?_⟩, ⟨rfl, ?_⟩, ⟨rfl, ?_⟩, ⟨rfl, ?_⟩, ⟨rfl, ?_⟩, ⟨rfl, ?_⟩, trivial⟩
    all_goals
      intro σ vs w' hvs hcl hC hk hdep
      simp only [putO, Act.put, List.setIfInBounds_toArray, List.set_cons_succ, List.set_cons_zero, Nat.reduceAdd]
      have HC := Lib.hid hC
      have HD := Lib.hid hdep
      have HL := Lib.hid hcl
      have HS := Lib.hid hk
      clear hC hdep hcl hk hvs
    · have hk := HK3.out.below HC.out.low.1 HKz.out
      have c0 := hk.cell 0
      have c1 := hk.cell 1
      clear hk
      go_simp
      exact HC.out.known HP.out.1 HNo.out
    · go_simp
      exact HC.out.known HP.out.2.1 HNo.out
    · rw [HC.out.val (HD.out ⟨1, .data⟩ (by simp) rfl) HP.out.2.1]
      go_simp
      have hb0 := HB3.out.trans (HC.out.low.1.mono HB3.out.size)
      refine (Input_any vi li w' ((HIn.out.below hb0 (Nat.le_refl _)).more hb0.size)).mono ?_
      rintro e w2 ⟨u, rfl, hu, hb⟩
      rw [HXS.out] at hu
      exact ⟨u, rfl, HC.out.input ix3_apart HNo.out hb hu⟩
    · go_simp
      exact HC.out.known HP.out.2.2 HNo.out
    · rw [HC.out.val (HD.out ⟨0, .data⟩ (by simp) rfl) HP.out.1, HC.out.val (HD.out ⟨3, .data⟩ (by simp) rfl) HP.out.2.2]
      have hi := HC.out.isInput (HD.out ⟨2, .data⟩ (by simp) rfl)
      have hcall := HRun.out _ _ w' n (by omega) ((Below.refl W.heap.size W).trans (HC.out.low.1.mono (Below.refl W.heap.size W).size)) hi
      rw [HX.out] at hcall
      have HCall := Lib.hid hcall
      clear hcall hi
      go_simp
      refine HCall.out.mono ?_
      rintro e w2 ⟨ov, rfl, h1, h2⟩
      have n5 := not_done HL.out HS.out (j := 5) rfl rfl
      have n6 := not_done HL.out n5 (j := 6) rfl rfl
      exact ⟨_, rfl, HC.out.run ix3_apart HNo.out h2 h1 n5 n6 (not_done HL.out n6 (j := 10) rfl rfl)⟩
    · go_simp
      exact HC.out.copy ix3_apart HNo.out (HD.out ⟨4, .data⟩ (by simp) rfl)
    · obtain ⟨ov, e⟩ := HC.out.isCopy (HD.out ⟨5, .data⟩ (by simp) rfl)
      rw [e]
      have h := HD.out ⟨5, .data⟩ (by simp) rfl
      rw [show vs (⟨5, .data⟩ : Edge).on = vs 5 from rfl, e] at h
      have HH := Lib.hid h
      clear h e
      unfold runV
      go_simp
      exact HC.out.out1 ix3_apart HNo.out HH.out
    · obtain ⟨ov, e⟩ := HC.out.isCopy (HD.out ⟨5, .data⟩ (by simp) rfl)
      rw [e]
      clear e
      unfold runV
      go_simp
      exact HC.out.out2 ix3_apart HNo.out
    · go_simp
      exact HC.out.var1 ix3_apart HNo.out (not_done HL.out HS.out (j := 10) rfl rfl)
    · go_simp
      exact HC.out.var2 ix3_apart HNo.out (not_done HL.out HS.out (j := 11) rfl rfl)
    · obtain ⟨ov, g, ⟨A, l, c, rfl⟩, e1, e2, hk, h⟩ := HC.out.store1 ix3_apart HNo.out (HD.out ⟨8, .data⟩ (by simp) rfl) (HD.out ⟨6, .data⟩ (by simp) rfl) (HD.out ⟨4, .chain⟩ (by simp) rfl) HS.out
      rw [e1, e2]
      have H := Lib.hid h
      have f0 := hk.frozen 0
      have f1 := hk.frozen 1
      have f2 := hk.frozen 2
      have f3 := hk.frozen 3
      have d0 : w'.cell? ⟨g, 0, none⟩ = some (.int .i64 0) := hk.cell 0
      have d1 : w'.cell? ⟨g, 1, none⟩ = some (.int .i64 0) := hk.cell 1
      have d2 : w'.cell? ⟨g, 2, none⟩ = some (.slice none 0 0) := hk.cell 2
      have d3 : w'.cell? ⟨g, 3, none⟩ = some (.int .i64 0) := hk.cell 3
      clear h hk e1 e2
      unfold outV ptrV
      go_simp
      exact H.out
    · obtain ⟨g, e1, e2, hk, h⟩ := HC.out.store2 ix3_apart HNo.out (HD.out ⟨9, .data⟩ (by simp) rfl) (HD.out ⟨7, .data⟩ (by simp) rfl) HS.out
      rw [e1, e2]
      have H := Lib.hid h
      have f0 := hk.frozen 0
      have f1 := hk.frozen 1
      have d0 : w'.cell? ⟨g, 0, none⟩ = some (.int .i64 0) := hk.cell 0
      have d1 : w'.cell? ⟨g, 1, none⟩ = some (.int .i64 0) := hk.cell 1
      clear h hk e1 e2
      unfold faultV ptrV
      go_simp
      exact H.out
  intro σ vs w4 hC hall
  obtain ⟨ox, gx, gf, e1, e2, hkx, hkf, hgx, hgf, hox, hb4⟩ := hC.done (hall 8 (by decide)) (hall 9 (by decide)) (hall 10 (by decide)) (hall 11 (by decide)) (hall 4 (by decide))
  simp only [putO, Act.put, List.setIfInBounds_toArray, List.set_cons_succ, List.set_cons_zero, Nat.reduceAdd]
  rw [show vs 8 = ptrV gx from e1, show vs 9 = ptrV gf from e2]
  have HKx := Lib.hid hkx
  have HFx := Lib.hid hkf
  have HOx := Lib.hid hox
  have HBx := Lib.hid hb4
  have HGx := Lib.hid (And.intro hgx hgf)
  generalize vs 0 = sx0 at *
  generalize vs 1 = sx1 at *
  generalize vs 2 = sx2 at *
  generalize vs 3 = sx3 at *
  generalize vs 4 = sx4 at *
  generalize vs 5 = sx5 at *
  generalize vs 6 = sx6 at *
  generalize vs 7 = sx7 at *
  clear hC hall e1 e2 hkx hkf hgx hgf hox hb4 HP HNo HW0
  unfold ptrV
  have HK4 := Lib.hid (HK3.out.below HBx.out HKz.out)
  have HK4z : Hid (gi < w4.heap.size) := Lib.hid HK4.out.lt
  have HB4 := Lib.hid (HB3.out.trans (HBx.out.mono HB3.out.size))
  go_upto_region 4 with fail
  have HW0 : Hid (TwoRun ix4 (pv4 (.agg #[.slice Ag ng cg, .slice Ar nr cr]) vi (.int .i64 (n : Int)) (.int .i64 mz) (.int .i64 (m : Int)) (.int .i64 ((n : Int) + (m : Int)))) w4.heap.size w4 xs Y (0, 0) (fun _ => none) { w4 with drawn := w4.drawn + 1 }) := Lib.hid (TwoRun.start (below_drew (Below.refl _ _)) (Nat.le_refl _))
  have HNo : Hid (∀ j ∈ ix4.all, (pv4 (.agg #[.slice Ag ng cg, .slice Ar nr cr]) vi (.int .i64 (n : Int)) (.int .i64 mz) (.int .i64 (m : Int)) (.int .i64 ((n : Int) + (m : Int)))) j = none) := Lib.hid (ix4_no _ _ _ _ _ _)
  have HP : Hid ((pv4 (.agg #[.slice Ag ng cg, .slice Ar nr cr]) vi (.int .i64 (n : Int)) (.int .i64 mz) (.int .i64 (m : Int)) (.int .i64 ((n : Int) + (m : Int)))) 0 = some (.agg #[.slice Ag ng cg, .slice Ar nr cr]) ∧ (pv4 (.agg #[.slice Ag ng cg, .slice Ar nr cr]) vi (.int .i64 (n : Int)) (.int .i64 mz) (.int .i64 (m : Int)) (.int .i64 ((n : Int) + (m : Int)))) 1 = some (vi) ∧ (pv4 (.agg #[.slice Ag ng cg, .slice Ar nr cr]) vi (.int .i64 (n : Int)) (.int .i64 mz) (.int .i64 (m : Int)) (.int .i64 ((n : Int) + (m : Int)))) 3 = some (.int .i64 (n : Int)) ∧ (pv4 (.agg #[.slice Ag ng cg, .slice Ar nr cr]) vi (.int .i64 (n : Int)) (.int .i64 mz) (.int .i64 (m : Int)) (.int .i64 ((n : Int) + (m : Int)))) 4 = some (.int .i64 mz) ∧ (pv4 (.agg #[.slice Ag ng cg, .slice Ar nr cr]) vi (.int .i64 (n : Int)) (.int .i64 mz) (.int .i64 (m : Int)) (.int .i64 ((n : Int) + (m : Int)))) 5 = some (.int .i64 (m : Int)) ∧ (pv4 (.agg #[.slice Ag ng cg, .slice Ar nr cr]) vi (.int .i64 (n : Int)) (.int .i64 mz) (.int .i64 (m : Int)) (.int .i64 ((n : Int) + (m : Int)))) 6 = some (.int .i64 ((n : Int) + (m : Int)))) := Lib.hid ⟨rfl, rfl, rfl, rfl, rfl, rfl⟩
  generalize pv4 (.agg #[.slice Ag ng cg, .slice Ar nr cr]) vi (.int .i64 (n : Int)) (.int .i64 mz) (.int .i64 (m : Int)) (.int .i64 ((n : Int) + (m : Int))) = pv at *
  refine wp_region_keeps (TwoRun ix4 pv w4.heap.size w4 xs Y (0, 0)) (by kernel_rfl) (by kernel_rfl) HW0.out ?_ ?_
  · refine ⟨⟨rfl, ?_⟩, ⟨rfl, ?_⟩, ⟨rfl, ?_⟩, ⟨rfl, ?_⟩, ⟨rfl, ?_⟩, ⟨rfl, ?_⟩, ⟨rfl, ?_⟩, ⟨rfl, ?_⟩, ⟨rfl, ?_⟩, ⟨rfl, ?_⟩, ⟨rfl, ?_⟩, ⟨rfl, ?_⟩, ⟨rfl, ?_⟩, ⟨rfl, ?_⟩, ⟨rfl, ?_⟩, trivial⟩
    all_goals
      intro σ vs w' hvs hcl hC hk hdep
      simp only [putO, Act.put, List.setIfInBounds_toArray, List.set_cons_succ, List.set_cons_zero, Nat.reduceAdd]
      have HC := Lib.hid hC
      have HD := Lib.hid hdep
      have HL := Lib.hid hcl
      have HS := Lib.hid hk
      clear hC hdep hcl hk hvs
    · have hk := HK4.out.below HC.out.low.1 HK4z.out
      have c0 := hk.cell 0
      have c1 := hk.cell 1
      clear hk
      go_simp
      exact HC.out.known HP.out.1 HNo.out
    · go_simp
      exact HC.out.known HP.out.2.1 HNo.out
    · rw [HC.out.val (HD.out ⟨1, .data⟩ (by simp) rfl) HP.out.2.1]
      go_simp
      have hb0 := HB4.out.trans (HC.out.low.1.mono HB4.out.size)
      refine (Input_any vi li w' ((HIn.out.below hb0 (Nat.le_refl _)).more hb0.size)).mono ?_
      rintro e w2 ⟨u, rfl, hu, hb⟩
      rw [HXS.out] at hu
      exact ⟨u, rfl, HC.out.input ix4_apart HNo.out hb hu⟩
    · go_simp
      exact HC.out.known HP.out.2.2.1 HNo.out
    · go_simp
      exact HC.out.known HP.out.2.2.2.1 HNo.out
    · rw [HC.out.val (HD.out ⟨4, .data⟩ (by simp) rfl) HP.out.2.2.2.1]
      go_simp
      refine (Picked_any mz 600 _ (by omega) (by omega) HF.out.2).mono ?_
      rintro e w2 ⟨rfl, rfl⟩
      exact ⟨_, rfl, by rw [HM.out]; exact HC.out.known HP.out.2.2.2.2.1 HNo.out⟩
    · rw [HC.out.val (HD.out ⟨3, .data⟩ (by simp) rfl) HP.out.2.2.1, HC.out.val (HD.out ⟨5, .data⟩ (by simp) rfl) HP.out.2.2.2.2.1]
      have hw : IntKind.i64.wrap ((n : Int) + (m : Int)) = (n : Int) + (m : Int) := by rw [IntKind.wrap_i64]; omega
      go_simp
      exact HC.out.known HP.out.2.2.2.2.2 HNo.out
    · rw [HC.out.val (HD.out ⟨0, .data⟩ (by simp) rfl) HP.out.1, HC.out.val (HD.out ⟨6, .data⟩ (by simp) rfl) HP.out.2.2.2.2.2]
      have hi := HC.out.isInput (HD.out ⟨2, .data⟩ (by simp) rfl)
      have hcall := HRun.out _ _ w' (n + m) (by omega) (HBx.out.trans (HC.out.low.1.mono HBx.out.size)) hi
      rw [HY.out, Int.natCast_add] at hcall
      have HCall := Lib.hid hcall
      clear hcall hi
      go_simp
      refine HCall.out.mono ?_
      rintro e w2 ⟨ov, rfl, h1, h2⟩
      have n5 := not_done HL.out HS.out (j := 8) rfl rfl
      have n6 := not_done HL.out n5 (j := 9) rfl rfl
      exact ⟨_, rfl, HC.out.run ix4_apart HNo.out h2 h1 n5 n6 (not_done HL.out n6 (j := 13) rfl rfl)⟩
    · go_simp
      exact HC.out.copy ix4_apart HNo.out (HD.out ⟨7, .data⟩ (by simp) rfl)
    · obtain ⟨ov, e⟩ := HC.out.isCopy (HD.out ⟨8, .data⟩ (by simp) rfl)
      rw [e]
      have h := HD.out ⟨8, .data⟩ (by simp) rfl
      rw [show vs (⟨8, .data⟩ : Edge).on = vs 8 from rfl, e] at h
      have HH := Lib.hid h
      clear h e
      unfold runV
      go_simp
      exact HC.out.out1 ix4_apart HNo.out HH.out
    · obtain ⟨ov, e⟩ := HC.out.isCopy (HD.out ⟨8, .data⟩ (by simp) rfl)
      rw [e]
      clear e
      unfold runV
      go_simp
      exact HC.out.out2 ix4_apart HNo.out
    · go_simp
      exact HC.out.var1 ix4_apart HNo.out (not_done HL.out HS.out (j := 13) rfl rfl)
    · go_simp
      exact HC.out.var2 ix4_apart HNo.out (not_done HL.out HS.out (j := 14) rfl rfl)
    · obtain ⟨ov, g, ⟨A, l, c, rfl⟩, e1, e2, hk, h⟩ := HC.out.store1 ix4_apart HNo.out (HD.out ⟨11, .data⟩ (by simp) rfl) (HD.out ⟨9, .data⟩ (by simp) rfl) (HD.out ⟨7, .chain⟩ (by simp) rfl) HS.out
      rw [e1, e2]
      have H := Lib.hid h
      have f0 := hk.frozen 0
      have f1 := hk.frozen 1
      have f2 := hk.frozen 2
      have f3 := hk.frozen 3
      have d0 : w'.cell? ⟨g, 0, none⟩ = some (.int .i64 0) := hk.cell 0
      have d1 : w'.cell? ⟨g, 1, none⟩ = some (.int .i64 0) := hk.cell 1
      have d2 : w'.cell? ⟨g, 2, none⟩ = some (.slice none 0 0) := hk.cell 2
      have d3 : w'.cell? ⟨g, 3, none⟩ = some (.int .i64 0) := hk.cell 3
      clear h hk e1 e2
      unfold outV ptrV
      go_simp
      exact H.out
    · obtain ⟨g, e1, e2, hk, h⟩ := HC.out.store2 ix4_apart HNo.out (HD.out ⟨12, .data⟩ (by simp) rfl) (HD.out ⟨10, .data⟩ (by simp) rfl) HS.out
      rw [e1, e2]
      have H := Lib.hid h
      have f0 := hk.frozen 0
      have f1 := hk.frozen 1
      have d0 : w'.cell? ⟨g, 0, none⟩ = some (.int .i64 0) := hk.cell 0
      have d1 : w'.cell? ⟨g, 1, none⟩ = some (.int .i64 0) := hk.cell 1
      clear h hk e1 e2
      unfold faultV ptrV
      go_simp
      exact H.out
  intro σ vs w5 hC hall
  obtain ⟨oy, gy, gh, e1, e2, hkx, hkf, hgx, hgf, hox, hb4⟩ := hC.done (hall 11 (by decide)) (hall 12 (by decide)) (hall 13 (by decide)) (hall 14 (by decide)) (hall 7 (by decide))
  simp only [putO, Act.put, List.setIfInBounds_toArray, List.set_cons_succ, List.set_cons_zero, Nat.reduceAdd]
  rw [show vs 11 = ptrV gy from e1, show vs 12 = ptrV gh from e2]
  have HKy := Lib.hid hkx
  have HFy := Lib.hid hkf
  have HOy := Lib.hid hox
  have HBy := Lib.hid hb4
  have HGy := Lib.hid (And.intro hgx hgf)
  generalize vs 0 = sy0 at *
  generalize vs 1 = sy1 at *
  generalize vs 2 = sy2 at *
  generalize vs 3 = sy3 at *
  generalize vs 4 = sy4 at *
  generalize vs 5 = sy5 at *
  generalize vs 6 = sy6 at *
  generalize vs 7 = sy7 at *
  generalize vs 8 = sy8 at *
  generalize vs 9 = sy9 at *
  generalize vs 10 = sy10 at *
  clear hC hall e1 e2 hkx hkf hgx hgf hox hb4 HP HNo HW0
  unfold ptrV
  have HKx5 := Lib.hid (HKx.out.below HBy.out HKx.out.lt)
  have HFx5 := Lib.hid (HFx.out.below HBy.out HFx.out.lt)
  have HOx5 := Lib.hid (row_lt HOx.out HBy.out)
  have HB5 := Lib.hid (HB4.out.trans (HBy.out.mono HB4.out.size))
  have b0 : w5.cell? ⟨gf, 0, none⟩ = some (.int .i64 0) := HFx5.out.cell 0
  have b1 : w5.cell? ⟨gh, 0, none⟩ = some (.int .i64 0) := HFy.out.cell 0
  clear HKx HFx HOx HBx HGx HGy HK3 HK4 HKz HK4z
  go_wp2_with fail
  refine (Sure_any w5 (HT.out.own HB5.out)).mono ?_
  rintro e w6 ⟨rfl, hb6⟩
  have HB6 := Lib.hid (HB5.out.trans (hb6.mono HB5.out.size))
  have HKx6 := Lib.hid (HKx5.out.below hb6 HKx5.out.lt)
  have HKy6 := Lib.hid (HKy.out.below hb6 HKy.out.lt)
  have HIx := Lib.hid (row_ints (row_lt HOx5.out hb6) rfl)
  have HIy := Lib.hid (row_ints (row_lt HOy.out hb6) rfl)
  obtain ⟨l1, l2, l3⟩ := HLaw.out
  have HL3 := Lib.hid l3
  have hq1 : ¬ ((n : Int) < (X.steps : Int)) := by omega
  have hq2 : ¬ ((Y.steps : Int) < (X.steps : Int)) := by omega
  have a0 : w6.cell? ⟨gx, 0, none⟩ = some (.int .i64 X.state) := HKx6.out.cell 0
  have a1 : w6.cell? ⟨gx, 1, none⟩ = some (.int .i64 X.value) := HKx6.out.cell 1
  have a2 : w6.cell? ⟨gx, 2, none⟩ = some ox := HKx6.out.cell 2
  have a3 : w6.cell? ⟨gx, 3, none⟩ = some (.int .i64 (X.steps : Int)) := HKx6.out.cell 3
  have c0 : w6.cell? ⟨gy, 0, none⟩ = some (.int .i64 Y.state) := HKy6.out.cell 0
  have c1 : w6.cell? ⟨gy, 1, none⟩ = some (.int .i64 Y.value) := HKy6.out.cell 1
  have c2 : w6.cell? ⟨gy, 2, none⟩ = some oy := HKy6.out.cell 2
  have c3 : w6.cell? ⟨gy, 3, none⟩ = some (.int .i64 (Y.steps : Int)) := HKy6.out.cell 3
  clear hb6 l1 l2 l3 b0 b1 HLaw HX HY HRI HImg HKx5 HFx5 HOx5 HKy HFy HOy HBy
  rcases HL3.out with ⟨e1, e2, e3⟩ | ⟨e1, e2⟩
  · rw [e1] at a0
    rw [e3] at a1
    rw [e2] at a3 hq1 hq2
    have hbn : ((n : Int) == (n : Int)) = true := by simp
    clear e1 e2 e3
    go_wp2_with fail
    go_ret
    exact ⟨rfl, HB6.out⟩
  · have hb : (X.state == 1) = false := by simpa using e1
    have HE2 := Lib.hid e2
    clear e1 e2
    go_wp2_with fail
    refine (Outcomes_any X Y ox oy w6 HIx.out HIy.out).mono ?_
    rintro e w7 ⟨rfl, hb7⟩
    rw [HE2.out]
    have HB7 := Lib.hid (HB6.out.trans (hb7.mono HB6.out.size))
    clear hb7
    go_wp2_with fail
    go_ret
    exact ⟨rfl, HB7.out⟩
end Go.Proofs.YtkiaffaieniebaaDoor
