/-
  Texts of the claim AsmWholeFixed (AxB): what each proves stands at its theorems.
  Conditions: as the theorems say.
-/
import Derived.Test.YtdldochhondifaaGreatDoorWAwL
import Derived.Test.YtdldochhondifaaGreatDoorWAsL
import Derived.Test.YtdldochhondifaaGreatDoorWRuS
namespace Go.Proofs.YtdldochhondifaaGreatDoor
open Go.RowKit
attribute [local go_sem] Oper.semAt_some

theorem fieldCode_at (c a : Int) (w : World) : (Instr.field 24 (.agg #[.int .i64 c, .int .i64 a]) 0).run Tryz.prog w = .ok (.int .i64 c) w := by
  have u := run_underlying (w := w) Tryz.underlying24
  have u3 := Tryz.underlying3
  have a3 := Tryz.isAgg3
  have z3 := Tryz.sizeOf3
  unfold Instr.field
  simp only [Sem.run_bind, u, Result.andThen_ok]
  go_simp
  simp [asAgg]
set_option maxRecDepth 100000 in
set_option maxHeartbeats 8000000 in
theorem AsmWholeFixed_any (t : List UInt8) (ht : t.length ≤ 9223372036854775807) (w : World) (hS : Std w) :
    Calls Tryz.prog 9 #[.string (mkS t)] w fun e w' => e = .returned (.bool true) ∧ Below w.heap.size w w' := by
  obtain ⟨n, hn⟩ : ∃ n, t.length = n := ⟨_, rfl⟩
  have hz : (mkS t).size = n := by rw [mkS_size, hn]
  have Hn := Lib.hid hn
  have HS := Lib.hid hS
  have HWa := Lib.hid (Whole_any t ht w hS)
  have HSy := Lib.hid (whole_says t)
  rw [hn] at ht
  by_cases h3 : n > 30000
  · have h3' : (n : Int) > 30000 := by omega
    clear hS hn h3
    go_enter Tryz.func9, Tryz.ntmps9
    go_wp2_with fail
    go_ret
    exact ⟨rfl, Below.refl _ _⟩
  have h3' : ¬ (n : Int) > 30000 := by omega
  have hn3 : n ≤ 30000 := by omega
  clear hS hn h3
  rcases HSy.out with ⟨hbad, hnil⟩ | ⟨gs, rs, hw, hm, hgo, hgi, hro, hlen⟩
  · obtain ⟨uc, huc⟩ : ∃ uc, (wholeP t).2.1 = uc := ⟨_, rfl⟩
    obtain ⟨ua, hua⟩ : ∃ ua, (wholeP t).2.2 = ua := ⟨_, rfl⟩
    have he : wholeP t = (([], []), (uc, ua)) := by rw [← huc, ← hua, ← hnil]
    rw [he] at HWa
    rw [huc] at hbad
    have hub : (uc == 0) = false := by simpa using hbad
    have hub2 : (uc != 0) = true := by simpa using hbad
    clear hbad hnil huc hua he
    go_enter Tryz.func9, Tryz.ntmps9
    go_wp2_with fail
    refine HWa.out.mono ?_
    rintro e W1 ⟨⟨gA, gn, gc, rA, rn, rc, rfl, hg, hr⟩, hb1⟩
    have hgn : gn = 0 := by
      obtain ⟨A, c, e, _⟩ := hg
      exact (Value.slice.inj e).2.1
    have hrn : rn = 0 := by
      obtain ⟨A, c, e, _⟩ := hr
      exact (Value.slice.inj e).2.1
    subst hgn hrn
    have HB2 : Hid (Below w.heap.size w ((W1.alloc (.cells #[.slice gA 0 gc, .slice rA 0 rc] 43)).alloc (.cells #[.int .i64 uc, .int .i64 ua] 24))) := Lib.hid ((hb1.alloc hb1.size _).alloc (by have := hb1.size; simp; omega) _)
    have HI2 : Hid (Blk ((W1.alloc (.cells #[.slice gA 0 gc, .slice rA 0 rc] 43)).alloc (.cells #[.int .i64 uc, .int .i64 ua] 24)) W1.heap.size 43 #[.slice gA 0 gc, .slice rA 0 rc]) := Lib.hid ((Blk.new _ _ _).alloc _)
    have HF2 : Hid (Blk ((W1.alloc (.cells #[.slice gA 0 gc, .slice rA 0 rc] 43)).alloc (.cells #[.int .i64 uc, .int .i64 ua] 24)) (W1.heap.size + 1) 24 #[.int .i64 uc, .int .i64 ua]) := Lib.hid (by
      have h := Blk.new (W1.alloc (.cells #[.slice gA 0 gc, .slice rA 0 rc] 43)) 24 #[.int .i64 uc, .int .i64 ua]
      simpa using h)
    clear hg hr hb1 HWa
    go_upto_region 4 with fail
    generalize (W1.alloc (.cells #[.slice gA 0 gc, .slice rA 0 rc] 43)).alloc (.cells #[.int .i64 uc, .int .i64 ua] 24) = W2 at *
    generalize W1.heap.size = g2 at *
    have HSu := Lib.hid (Sure_any W2 (HS.out.own HB2.out).tab)
    go_wp2_with fail
    refine HSu.out.mono ?_
    rintro e W3 ⟨rfl, hb3⟩
    have HB3 := Lib.hid (HB2.out.trans (hb3.mono HB2.out.size))
    have x0 := (HF2.out.below hb3 HF2.out.lt).cell 0
    have i0 := (HI2.out.below hb3 HI2.out.lt).cell 0
    have i1 := (HI2.out.below hb3 HI2.out.lt).cell 1
    clear hb3 HSu
    go_wp2_with fail
    go_ret
    exact ⟨rfl, HB3.out⟩
  · rw [hw] at HWa
    have hf := img_facts hm hgo hgi hro
    have hok := img_ok hm hgo hgi hro
    have hl8 : (apartL gs rs).length ≤ 80000 := by rw [Hn.out] at hlen; omega
    have hwt := whole_text hm hf.1 hf.2.1 hf.2.2 hl8
    have hap : apartF gs rs = apartL gs rs := by unfold apartF; rw [if_pos hm]
    have hne := apart_ne (gs := gs) hok.r0
    obtain ⟨s, hs⟩ : ∃ s, apartL gs rs = s := ⟨_, rfl⟩
    rw [hs] at hwt hap hl8 hne
    obtain ⟨ma, hma⟩ : ∃ ma, (machF gs rs).2 = ma := ⟨_, rfl⟩
    have Hm := Lib.hid hm
    have Hma := Lib.hid hma
    have Hgo := Lib.hid hgo
    have Hgi := Lib.hid hgi
    have Hro := Lib.hid hro
    have Hwt := Lib.hid hwt
    have Hap := Lib.hid hap
    have Hl8 := Lib.hid hl8
    clear hw hm hgo hgi hro hlen hf hok hwt hap hne hs hl8 hma
    go_enter Tryz.func9, Tryz.ntmps9
    go_wp2_with fail
    refine HWa.out.mono ?_
    rintro e W1 ⟨⟨gA, gn, gc, rA, rn, rc, rfl, hg, hr⟩, hb1⟩
    have hbA : Below W1.heap.size W1 ((W1.alloc (.cells #[.slice gA gn gc, .slice rA rn rc] 43)).alloc (.cells #[.int .i64 0, .int .i64 0] 24)) := ((Below.refl _ _).alloc (Nat.le_refl _) _).alloc (by simp) _
    have HB2 := Lib.hid (hb1.trans (hbA.mono hb1.size))
    have HI2 : Hid (Blk ((W1.alloc (.cells #[.slice gA gn gc, .slice rA rn rc] 43)).alloc (.cells #[.int .i64 0, .int .i64 0] 24)) W1.heap.size 43 #[.slice gA gn gc, .slice rA rn rc]) := Lib.hid ((Blk.new _ _ _).alloc _)
    have HF2 : Hid (Blk ((W1.alloc (.cells #[.slice gA gn gc, .slice rA rn rc] 43)).alloc (.cells #[.int .i64 0, .int .i64 0] 24)) (W1.heap.size + 1) 24 #[.int .i64 0, .int .i64 0]) := Lib.hid (by
      have h := Blk.new (W1.alloc (.cells #[.slice gA gn gc, .slice rA rn rc] 43)) 24 #[.int .i64 0, .int .i64 0]
      simpa using h)
    have HR2 := Lib.hid (And.intro ((hg.below hbA (Nat.le_refl _)).more hbA.size) ((hr.below hbA (Nat.le_refl _)).more hbA.size))
    clear hg hr hb1 hbA HWa
    go_upto_region 4 with fail
    generalize (W1.alloc (.cells #[.slice gA gn gc, .slice rA rn rc] 43)).alloc (.cells #[.int .i64 0, .int .i64 0] 24) = W2 at *
    generalize W1.heap.size = g2 at *
    have HSu := Lib.hid (Sure_any W2 (HS.out.own HB2.out).tab)
    go_wp2_with fail
    refine HSu.out.mono ?_
    rintro e W3 ⟨rfl, hb3⟩
    have HB3 := Lib.hid (HB2.out.trans (hb3.mono HB2.out.size))
    have HI3 := Lib.hid (HI2.out.below hb3 HI2.out.lt)
    have HF3 := Lib.hid (HF2.out.below hb3 HF2.out.lt)
    have HR3 := Lib.hid (And.intro ((HR2.out.1.below hb3 (Nat.le_refl _)).more hb3.size) ((HR2.out.2.below hb3 (Nat.le_refl _)).more hb3.size))
    have HAp := Lib.hid (Apart_any (.slice gA gn gc) (.slice rA rn rc) gs rs W3 HR3.out.1 HR3.out.2 Hgo.out Hro.out Hgi.out (HS.out.own HB3.out).tab (HS.out.own HB3.out).pow (HS.out.own HB3.out).wrd)
    rw [Hap.out, Hm.out, Hma.out] at HAp
    have x0 := HF3.out.cell 0
    have i0 := HI3.out.cell 0
    have i1 := HI3.out.cell 1
    clear hb3 HSu HB2 HI2 HF2 HR2
    go_wp2_with fail
    refine HAp.out.mono ?_
    rintro e W4 ⟨rfl, hb4⟩
    have hz3 := HB3.out.size
    have hbF : Below W3.heap.size W3 (W4.alloc (.cells #[.int .i64 0, .int .i64 ma] 24)) := hb4.alloc hb4.size _
    have HB5 := Lib.hid (HB3.out.trans (hbF.mono hz3))
    have HI5 := Lib.hid (HI3.out.below hbF HI3.out.lt)
    have HR5 := Lib.hid (And.intro ((HR3.out.1.below hbF (Nat.le_refl _)).more hbF.size) ((HR3.out.2.below hbF (Nat.le_refl _)).more hbF.size))
    have HG5 : Hid (Blk (W4.alloc (.cells #[.int .i64 0, .int .i64 ma] 24)) W4.heap.size 24 #[.int .i64 0, .int .i64 ma]) := Lib.hid (Blk.new _ _ _)
    clear hb4 hz3 hbF HAp x0 i0 i1 HB3 HI3 HF3 HR3
    go_upto_region 9 with fail
    generalize W4.alloc (.cells #[.int .i64 0, .int .i64 ma] 24) = W5 at *
    generalize W4.heap.size = g5 at *
    have HWh := Lib.hid (Whole_any s (by have := Hl8.out; omega) W5 (HS.out.own HB5.out))
    rw [Hwt.out] at HWh
    go_wp2_with fail
    refine HWh.out.mono ?_
    rintro e W6 ⟨⟨hA, hn', hc, kA, kn, kc, rfl, hg6, hr6⟩, hb6⟩
    have hz := HB5.out.size
    have hbA : Below W6.heap.size W6 ((W6.alloc (.cells #[.slice hA hn' hc, .slice kA kn kc] 43)).alloc (.cells #[.int .i64 0, .int .i64 0] 24)) := ((Below.refl _ _).alloc (Nat.le_refl _) _).alloc (by simp) _
    have hb57 := hb6.trans (hbA.mono hb6.size)
    have HB7 := Lib.hid (HB5.out.trans (hb57.mono hz))
    have HI7 := Lib.hid (HI5.out.below hb57 HI5.out.lt)
    have HG7 := Lib.hid (HG5.out.below hb57 HG5.out.lt)
    have HR7 := Lib.hid (And.intro ((HR5.out.1.below hb57 (Nat.le_refl _)).more hb57.size) ((HR5.out.2.below hb57 (Nat.le_refl _)).more hb57.size))
    have HQ7 := Lib.hid (And.intro ((hg6.below hbA (Nat.le_refl _)).more hbA.size) ((hr6.below hbA (Nat.le_refl _)).more hbA.size))
    have HJ7 : Hid (Blk ((W6.alloc (.cells #[.slice hA hn' hc, .slice kA kn kc] 43)).alloc (.cells #[.int .i64 0, .int .i64 0] 24)) W6.heap.size 43 #[.slice hA hn' hc, .slice kA kn kc]) := Lib.hid ((Blk.new _ _ _).alloc _)
    have HK7 : Hid (Blk ((W6.alloc (.cells #[.slice hA hn' hc, .slice kA kn kc] 43)).alloc (.cells #[.int .i64 0, .int .i64 0] 24)) (W6.heap.size + 1) 24 #[.int .i64 0, .int .i64 0]) := Lib.hid (by
      have h := Blk.new (W6.alloc (.cells #[.slice hA hn' hc, .slice kA kn kc] 43)) 24 #[.int .i64 0, .int .i64 0]
      simpa using h)
    clear hz hbA hb57 hb6 hg6 hr6 HWh HB5 HI5 HG5 HR5
    go_upto_region 10 with fail
    generalize (W6.alloc (.cells #[.slice hA hn' hc, .slice kA kn kc] 43)).alloc (.cells #[.int .i64 0, .int .i64 0] 24) = W7 at *
    generalize W6.heap.size = g7 at *
    have HCk := Lib.hid (MCheck_any (.slice gA gn gc) (.slice rA rn rc) gs rs W7 HR7.out.1 HR7.out.2 Hgo.out Hro.out (HS.out.own HB7.out).tab)
    rw [Hm.out, Hma.out] at HCk
    have i0 := HI7.out.cell 0
    have i1 := HI7.out.cell 1
    go_wp2_with fail
    refine HCk.out.mono ?_
    rintro e W8 ⟨rfl, hb8⟩
    have HB8 := Lib.hid (HB7.out.trans (hb8.mono HB7.out.size))
    have HSm := Lib.hid (SameImage_same (.slice gA gn gc) (.slice rA rn rc) (.slice hA hn' hc) (.slice kA kn kc) gs rs W8 ((HR7.out.1.below hb8 (Nat.le_refl _)).more hb8.size) ((HR7.out.2.below hb8 (Nat.le_refl _)).more hb8.size) ((HQ7.out.1.below hb8 (Nat.le_refl _)).more hb8.size) ((HQ7.out.2.below hb8 (Nat.le_refl _)).more hb8.size))
    have hI8 := HI7.out.below hb8 HI7.out.lt
    have hG8 := HG7.out.below hb8 HG7.out.lt
    have hJ8 := HJ7.out.below hb8 HJ7.out.lt
    have hK8 := HK7.out.below hb8 HK7.out.lt
    clear hb8 HCk i0 i1
    have i0 := hI8.cell 0
    have i1 := hI8.cell 1
    have j0 := hJ8.cell 0
    have j1 := hJ8.cell 1
    have x0 := hG8.cell 0
    have y0 := hK8.cell 0
    clear hI8 hG8 hJ8 hK8
    have hfld := fun (c a : Int) (W : World) => fieldCode_at c a W
    go_wp2_with fail
    refine HSm.out.mono ?_
    rintro e W9 ⟨rfl, hb9⟩
    have HB9 := Lib.hid (HB8.out.trans (hb9.mono HB8.out.size))
    clear hb9 HSm
    go_wp2_with fail
    go_ret
    exact ⟨rfl, HB9.out⟩
end Go.Proofs.YtdldochhondifaaGreatDoor
