/-
  Texts of the claim AsmApartBack (AxA): what each proves stands at its theorems.
  Conditions: as the theorems say.
-/
import Derived.Test.YtdldochhondifaaGreatDoorYAwI
import Derived.Test.YtdldochhondifaaGreatDoorYAwK
import Derived.Test.YtdldochhondifaaGreatDoorYAsL
import Derived.Test.YtdldochhondifaaGreatDoorYRuW
namespace Go.Proofs.YtdldochhondifaaGreatDoor
open Go.RowKit
attribute [local go_sem] Oper.semAt_some

theorem kGlobs_in : GIn kGlobs := by
  intro g hg x hx
  unfold kGlobs at hg
  simp only [List.mem_cons, List.not_mem_nil, or_false] at hg
  rcases hg with rfl | rfl
  · simp only [List.mem_cons, List.not_mem_nil, or_false] at hx
    subst hx
    exact ⟨by decide, by decide⟩
  · simp at hx
theorem flat_len {α : Type} {f : α → List UInt8} {b : Nat} : ∀ {l : List α}, (∀ x ∈ l, (f x).length ≤ b) → ((l.map f).flatten).length ≤ l.length * b
  | [], _ => by simp
  | a :: l, h => by
    have h1 := h a (by simp)
    have h2 := flat_len (l := l) (fun x hx => h x (by simp [hx]))
    rw [List.map_cons, List.flatten_cons, List.length_append, List.length_cons, Nat.succ_mul]
    omega
theorem img_text_len {la lb lc : List Int} (ha : ∀ x ∈ la, I64 x) (hb : ∀ x ∈ lb, I64 x) (hc : ∀ x ∈ lc, I64 x) : (apartL kGlobs (imgR la lb lc 25)).length ≤ 80000 := by
  have hm := img_fine (n := 25) ha hb hc (by decide)
  have hok := img_ok (gs := kGlobs) (rs := imgR la lb lc 25) (by rw [hm]) kGlobs_ok kGlobs_in (img_rok ha hb hc (by decide))
  have hr : ∀ r ∈ imgR la lb lc 25, (routL (imgR la lb lc 25) r).length ≤ 13 + 9 + 430 * 26 := fun r hr => by
    have hl : (readL r.code).2.length ≤ 26 := by
      unfold imgR at hr
      simp only [List.mem_cons, List.not_mem_nil, or_false] at hr
      rcases hr with rfl | rfl | rfl
      · simp only; rw [img_read la ha (by decide)]; simp only; rw [codeOf_len]; omega
      · simp only; rw [img_read lb hb (by decide)]; simp only; rw [codeOf_len]; omega
      · simp only; rw [img_read lc hc (by decide)]; simp only; rw [codeOf_len]; omega
    have hn := hok.rname r hr
    have hnl : r.name.data.toList.length = r.name.size := (Lib.size_eq r.name).symm
    have ht := textTo_len (rt := rtN (namesL (imgR la lb lc 25))) (l := (readL r.code).2) (hok.code r hr).2.2.1 (fun m hm => by
      unfold rtN
      have hnz : ¬ (namesL (imgR la lb lc 25)).length = 0 := by unfold namesL imgR; simp
      rw [if_neg hnz, List.getD_eq_getElem?_getD]
      cases hx : (namesL (imgR la lb lc 25))[m.n.toNat]? with
      | none => simp
      | some s =>
        have hs := List.mem_of_getElem? hx
        unfold namesL at hs
        obtain ⟨r', hr', rfl⟩ := List.mem_map.1 hs
        have := hok.rname r' hr'
        have : r'.name.data.toList.length = r'.name.size := (Lib.size_eq r'.name).symm
        simp only [Option.getD_some]
        omega) (by omega) (k := (readL r.code).2.length) (Nat.le_refl _)
    unfold routL routHead textL
    simp only [List.length_append, List.length_cons, List.length_nil]
    have : 430 * (readL r.code).2.length ≤ 430 * 26 := Nat.mul_le_mul_left _ hl
    omega
  have hg : ∀ g ∈ kGlobs, (globL g).length ≤ 5000 := fun g hg => globL_len hok hg
  unfold apartL globsTo routsTo
  rw [List.take_length, List.take_length, List.length_append]
  have h1 := flat_len hg
  have h2 := flat_len hr
  have l1 : kGlobs.length = 2 := rfl
  have l2 : (imgR la lb lc 25).length = 3 := rfl
  rw [l1] at h1
  rw [l2] at h2
  omega
set_option maxRecDepth 100000 in
set_option maxHeartbeats 4000000 in
theorem AsmApartBack_any (va vb vc : Value) (la lb lc : List Int) (w : World) (ha : IntsAt w w.heap.size va la) (hb : IntsAt w w.heap.size vb lb) (hc : IntsAt w w.heap.size vc lc) (hia : ∀ x ∈ la, I64 x) (hib : ∀ x ∈ lb, I64 x) (hic : ∀ x ∈ lc, I64 x) (hS : Std w) :
    Calls Tryz.prog 8 #[va, vb, vc] w fun e w' => e = .returned (.bool true) ∧ Below w.heap.size w w' := by
  have HI := Lib.hid (ImageOf_any va vb vc la lb lc 25 w ha hb hc hia hib hic (by decide))
  rw [show ((25 : Nat) : Int) = 25 from rfl] at HI
  have hm := img_fine (n := 25) hia hib hic (by decide)
  have hro := img_rok (n := 25) hia hib hic (by decide)
  have hlen := img_text_len hia hib hic
  obtain ⟨rs, hrs⟩ : ∃ rs, imgR la lb lc 25 = rs := ⟨_, rfl⟩
  have hr0 : 0 < rs.length := by rw [← hrs]; unfold imgR; simp
  rw [hrs] at HI hm hro hlen
  have hf := img_facts (gs := kGlobs) (rs := rs) (by rw [hm]) kGlobs_ok kGlobs_in hro
  have hwt := whole_text (gs := kGlobs) (rs := rs) (by rw [hm]) hf.1 hf.2.1 hf.2.2 hlen
  have hap : apartF kGlobs rs = apartL kGlobs rs := by unfold apartF; rw [hm, if_pos rfl]
  have hne := apart_ne (gs := kGlobs) hr0
  obtain ⟨t, ht⟩ : ∃ t, apartL kGlobs rs = t := ⟨_, rfl⟩
  rw [ht] at hwt hap hlen hne
  have q1 : ¬ (mkS t).toList = [] := by rw [mkS_toList]; exact hne
  have q2 : ((mkS t).toList == []) = false := beq_false_of_ne q1
  have q3 : (mkS t).toList.isEmpty = false := by rw [mkS_toList]; cases t with | nil => exact absurd rfl hne | cons a l => rfl
  have q4 : ((mkS t).toList != []) = true := by rw [bne_iff_ne]; exact q1
  have HS := Lib.hid hS
  have Hm := Lib.hid hm
  have Hro := Lib.hid hro
  have Hwt := Lib.hid hwt
  have Hap := Lib.hid hap
  have Hlen := Lib.hid hlen
  clear ha hb hc hia hib hic hS hm hro hlen hrs hr0 hf hwt hap hne ht
  go_enter Tryz.func8, Tryz.ntmps8
  go_wp2_with fail
  refine HI.out.mono ?_
  rintro e W1 ⟨gv, rv, rfl, hread, hb1⟩
  have hr1 := hread W1 (Turn.refl _ _)
  obtain ⟨A1, c1, hgv, _⟩ := hr1.1
  obtain ⟨A2, c2, hrv, _⟩ := hr1.2
  subst hgv hrv
  obtain ⟨gn, hgn⟩ : ∃ gn, kGlobs.length = gn := ⟨_, rfl⟩
  obtain ⟨rn, hrn⟩ : ∃ rn, rs.length = rn := ⟨_, rfl⟩
  rw [hgn, hrn] at hr1 ⊢
  have HB2 : Hid (Below w.heap.size w (W1.alloc (.cells #[.slice A1 gn c1, .slice A2 rn c2] 43))) := Lib.hid (hb1.alloc hb1.size _)
  have HI2 : Hid (Blk (W1.alloc (.cells #[.slice A1 gn c1, .slice A2 rn c2] 43)) W1.heap.size 43 #[.slice A1 gn c1, .slice A2 rn c2]) := Lib.hid (Blk.new _ _ _)
  have HR2 : Hid (GlobsAt (W1.alloc (.cells #[.slice A1 gn c1, .slice A2 rn c2] 43)) (W1.alloc (.cells #[.slice A1 gn c1, .slice A2 rn c2] 43)).heap.size (.slice A1 gn c1) kGlobs ∧ RoutsAt (W1.alloc (.cells #[.slice A1 gn c1, .slice A2 rn c2] 43)) (W1.alloc (.cells #[.slice A1 gn c1, .slice A2 rn c2] 43)).heap.size (.slice A2 rn c2) rs) := Lib.hid (by
    have hb := (Below.refl W1.heap.size W1).alloc (Nat.le_refl _) (.cells #[.slice A1 gn c1, .slice A2 rn c2] 43)
    exact ⟨(hr1.1.below hb (Nat.le_refl _)).more hb.size, (hr1.2.below hb (Nat.le_refl _)).more hb.size⟩)
  clear hread hr1 hb1 hgn hrn HI
  go_upto_region 2 with fail
  generalize W1.alloc (.cells #[.slice A1 gn c1, .slice A2 rn c2] 43) = W2 at *
  generalize W1.heap.size = g2 at *
  have HAp := Lib.hid (Apart_any (.slice A1 gn c1) (.slice A2 rn c2) kGlobs rs W2 HR2.out.1 HR2.out.2 kGlobs_ok Hro.out kGlobs_in (HS.out.own HB2.out).tab (HS.out.own HB2.out).pow (HS.out.own HB2.out).wrd)
  rw [Hap.out, Hm.out] at HAp
  have i0 := HI2.out.cell 0
  have i1 := HI2.out.cell 1
  go_wp2_with fail
  refine HAp.out.mono ?_
  rintro e W3 ⟨rfl, hb3⟩
  have hz := HB2.out.size
  have HB4 : Hid (Below w.heap.size w (W3.alloc (.cells #[.int .i64 0, .int .i64 0] 24))) := Lib.hid ((HB2.out.trans (hb3.mono hz)).alloc (Nat.le_trans hz hb3.size) _)
  have hb24 : Below W2.heap.size W2 (W3.alloc (.cells #[.int .i64 0, .int .i64 0] 24)) := hb3.alloc hb3.size _
  have HF4 : Hid (Blk (W3.alloc (.cells #[.int .i64 0, .int .i64 0] 24)) W3.heap.size 24 #[.int .i64 0, .int .i64 0]) := Lib.hid (Blk.new _ _ _)
  have HI4 := Lib.hid (HI2.out.below hb24 HI2.out.lt)
  have HR4 := Lib.hid (And.intro ((HR2.out.1.below hb24 (Nat.le_refl _)).more hb24.size) ((HR2.out.2.below hb24 (Nat.le_refl _)).more hb24.size))
  clear hb3 hz hb24 HAp i0 i1 HI2 HR2 HB2
  go_upto_region 3 with fail
  generalize W3.alloc (.cells #[.int .i64 0, .int .i64 0] 24) = W4 at *
  generalize W3.heap.size = g4 at *
  have HWh := Lib.hid (Whole_any t (by have := Hlen.out; omega) W4 (HS.out.own HB4.out))
  rw [Hwt.out] at HWh
  go_wp2_with fail
  refine HWh.out.mono ?_
  rintro e W5 ⟨⟨gA, gm, gc, rA, rm, rc, rfl, hg5, hr5⟩, hb5⟩
  have hz := HB4.out.size
  have hbA : Below W5.heap.size W5 ((W5.alloc (.cells #[.slice gA gm gc, .slice rA rm rc] 43)).alloc (.cells #[.int .i64 0, .int .i64 0] 24)) := ((Below.refl _ _).alloc (Nat.le_refl _) _).alloc (by simp) _
  have hb46 := hb5.trans (hbA.mono hb5.size)
  have HB6 := Lib.hid (HB4.out.trans (hb46.mono hz))
  have HF6 := Lib.hid (HF4.out.below hb46 HF4.out.lt)
  have HI6 := Lib.hid (HI4.out.below hb46 HI4.out.lt)
  have HR6 := Lib.hid (And.intro ((HR4.out.1.below hb46 (Nat.le_refl _)).more hb46.size) ((HR4.out.2.below hb46 (Nat.le_refl _)).more hb46.size))
  have HQ6 := Lib.hid (And.intro ((hg5.below hbA (Nat.le_refl _)).more hbA.size) ((hr5.below hbA (Nat.le_refl _)).more hbA.size))
  have HJ6 : Hid (Blk ((W5.alloc (.cells #[.slice gA gm gc, .slice rA rm rc] 43)).alloc (.cells #[.int .i64 0, .int .i64 0] 24)) W5.heap.size 43 #[.slice gA gm gc, .slice rA rm rc]) := Lib.hid ((Blk.new _ _ _).alloc _)
  have HG6 : Hid (Blk ((W5.alloc (.cells #[.slice gA gm gc, .slice rA rm rc] 43)).alloc (.cells #[.int .i64 0, .int .i64 0] 24)) (W5.heap.size + 1) 24 #[.int .i64 0, .int .i64 0]) := Lib.hid (by
    have h := Blk.new (W5.alloc (.cells #[.slice gA gm gc, .slice rA rm rc] 43)) 24 #[.int .i64 0, .int .i64 0]
    simpa using h)
  clear hz hbA hb46 hb5 hg5 hr5 HWh HB4 HF4 HI4 HR4
  go_upto_region 4 with fail
  generalize (W5.alloc (.cells #[.slice gA gm gc, .slice rA rm rc] 43)).alloc (.cells #[.int .i64 0, .int .i64 0] 24) = W6 at *
  generalize W5.heap.size = g6 at *
  have HSm := Lib.hid (SameImage_same (.slice A1 gn c1) (.slice A2 rn c2) (.slice gA gm gc) (.slice rA rm rc) kGlobs rs W6 HR6.out.1 HR6.out.2 HQ6.out.1 HQ6.out.2)
  have x0 := HF6.out.cell 0
  have y0 := HG6.out.cell 0
  have i0 := HI6.out.cell 0
  have i1 := HI6.out.cell 1
  have j0 := HJ6.out.cell 0
  have j1 := HJ6.out.cell 1
  go_wp2_with fail
  refine HSm.out.mono ?_
  rintro e W7 ⟨rfl, hb7⟩
  have HB7 := Lib.hid (HB6.out.trans (hb7.mono HB6.out.size))
  clear hb7 HSm
  go_wp2_with fail
  go_ret
  exact ⟨rfl, HB7.out⟩
end Go.Proofs.YtdldochhondifaaGreatDoor
