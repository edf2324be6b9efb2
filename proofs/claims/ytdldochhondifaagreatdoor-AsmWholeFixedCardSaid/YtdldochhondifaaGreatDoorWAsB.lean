/-
  Texts of the claim AsmWholeFixed (AsB): what each proves stands at its theorems.
  Conditions: as the theorems say.
-/
import Derived.Deep.DeepCutAuto
import Derived.Test.YtdldochhondifaaGreatDoorWAsA
namespace Go.Proofs.YtdldochhondifaaGreatDoor
open Go.RowKit
attribute [local go_sem] Oper.semAt_some

/-- A function value that names a number, and makes what it wants. -/
def Namer (fv : Value) (n : Int) (s : List UInt8) (w : World) : Prop :=
  ∃ F cap, fv = .func (.func F) #[] cap ∧ (∀ (a : Array Value) (W : World), (callFunc F a).run Tryz.prog W = .ok (.enter F a) W) ∧ ∀ W, Below w.heap.size w W → Calls Tryz.prog F (#[.int .i64 n] ++ cap) W fun e W' => e = .returned (.string (mkS s)) ∧ Below W.heap.size W W'
theorem Namer.own {fv : Value} {n : Int} {s : List UInt8} {w w' : World} (h : Namer fv n s w) (hb : Below w.heap.size w w') : Namer fv n s w' := by
  obtain ⟨F, cap, h1, h2, h3⟩ := h
  exact ⟨F, cap, h1, h2, fun W hW => h3 W (hb.trans (hW.mono hb.size))⟩
theorem Pow.lt {w : World} (h : Pow w) : 5 < w.heap.size := by
  unfold Pow Lib.TabIs World.var? at h
  rw [gPow] at h
  simp only [Option.bind_some] at h
  rcases Nat.lt_or_ge 5 w.heap.size with h' | h'
  · exact h'
  · rw [Array.getElem?_eq_none h'] at h; simp at h
theorem Pow.grown {w w' : World} {B : Nat} {v : Value} {ss : List (List UInt8)} (h : Pow w) (hg : w.grownBy w' v.ownBlock) (ho : OwnS w B v ss) (hB : 5 < B) : Pow w' := by
  unfold Pow Lib.TabIs World.var? at *
  rw [gPow] at h ⊢
  simp only [Option.bind_some] at h ⊢
  rw [hg.block _ ?_ ?_]
  · exact h
  · rcases Nat.lt_or_ge 5 w.heap.size with h' | h'
    · exact h'
    · rw [Array.getElem?_eq_none h'] at h; simp at h
  · intro e
    have := own_block_ge ho _ e.symm
    omega
set_option maxRecDepth 100000 in
set_option maxHeartbeats 8000000 in
theorem partsSetN (m : Mac) (hm : m.ok) (rt : Int → List UInt8) (fv : Value) (w : World) (hp : Pow w) (hop : ¬ m.op = 34) (ho : ordL m.op = [100, 110]) :
    Calls Tryz.prog 80 #[.agg #[.int .i64 m.op, .int .i64 m.dst, .int .i64 m.a, .int .i64 m.b, .int .i64 m.n], .agg #[.bool true, .bool false, .bool false, .int .i64 1], fv] w fun e w' => ∃ v, e = .returned v ∧ OwnS w' w.heap.size v (partsL rt m) ∧ Below w.heap.size w w' := by
  have HE : Hid (partsL rt m = [(114 :: Lib.itoa m.dst), (Lib.itoa m.n)]) := Lib.hid (by unfold partsL; rw [ho]; rfl)
  obtain ⟨B, hB⟩ : ∃ B, w.heap.size = B := ⟨_, rfl⟩
  have HM0 : Hid (Blk ((w.alloc (.cells #[.int .i64 m.op, .int .i64 m.dst, .int .i64 m.a, .int .i64 m.b, .int .i64 m.n] 39)).alloc (.cells #[.bool true, .bool false, .bool false, .int .i64 1] 129)) B 39 #[.int .i64 m.op, .int .i64 m.dst, .int .i64 m.a, .int .i64 m.b, .int .i64 m.n]) := Lib.hid (by rw [← hB]; exact (Blk.new w _ _).alloc _)
  have HS0 : Hid (Blk ((w.alloc (.cells #[.int .i64 m.op, .int .i64 m.dst, .int .i64 m.a, .int .i64 m.b, .int .i64 m.n] 39)).alloc (.cells #[.bool true, .bool false, .bool false, .int .i64 1] 129)) (B + 1) 129 #[.bool true, .bool false, .bool false, .int .i64 1]) := Lib.hid (by simpa [← hB] using Blk.new (w.alloc (.cells #[.int .i64 m.op, .int .i64 m.dst, .int .i64 m.a, .int .i64 m.b, .int .i64 m.n] 39)) 129 #[.bool true, .bool false, .bool false, .int .i64 1])
  have HB0 : Hid (Below B w ((w.alloc (.cells #[.int .i64 m.op, .int .i64 m.dst, .int .i64 m.a, .int .i64 m.b, .int .i64 m.n] 39)).alloc (.cells #[.bool true, .bool false, .bool false, .int .i64 1] 129))) := Lib.hid (by rw [← hB]; exact ((Below.refl _ _).alloc (Nat.le_refl _) _).alloc (by simp) _)
  have HP0 : Hid (Pow ((w.alloc (.cells #[.int .i64 m.op, .int .i64 m.dst, .int .i64 m.a, .int .i64 m.b, .int .i64 m.n] 39)).alloc (.cells #[.bool true, .bool false, .bool false, .int .i64 1] 129))) := Lib.hid (hp.own (by rw [hB]; exact HB0.out))
  have HO0 : Hid (OwnS ((w.alloc (.cells #[.int .i64 m.op, .int .i64 m.dst, .int .i64 m.a, .int .i64 m.b, .int .i64 m.n] 39)).alloc (.cells #[.bool true, .bool false, .bool false, .int .i64 1] 129)) B (.slice none 0 0) []) := Lib.hid (OwnS.nil _ _)
  have Hw := Lib.hid hB
  have HGB : Hid (5 < B) := Lib.hid (by rw [← hB]; exact hp.lt)
  clear hp ho
  go_enter Tryz.func80, Tryz.ntmps80
  go_upto_region 2 with fail
  clear hB
  generalize (w.alloc (.cells #[.int .i64 m.op, .int .i64 m.dst, .int .i64 m.a, .int .i64 m.b, .int .i64 m.n] 39)).alloc (.cells #[.bool true, .bool false, .bool false, .int .i64 1] 129) = W0 at *
  have m0 := HM0.out.cell 0
  have m1 := HM0.out.cell 1
  have m2 := HM0.out.cell 2
  have m3 := HM0.out.cell 3
  have m4 := HM0.out.cell 4
  have s0 := HS0.out.cell 0
  have s1 := HS0.out.cell 1
  have s2 := HS0.out.cell 2
  have s3 := HS0.out.cell 3
  have HC := Lib.hid (reg_any m.dst hm.dst _ HP0.out)
  go_wp2_with fail
  refine HC.out.mono ?_
  rintro e V1 ⟨rfl, hb⟩
  have HBv := Lib.hid (HB0.out.trans (hb.mono (by have := HM0.out.lt; omega)))
  have HMv := Lib.hid (HM0.out.below hb HM0.out.lt)
  have HSv := Lib.hid (HS0.out.below hb HS0.out.lt)
  have HPv := Lib.hid (HP0.out.own hb)
  have HOv := Lib.hid (HO0.out.below hb)
  have hBz : B ≤ V1.heap.size := by have := HMv.out.lt; omega
  clear m0 m1 m2 m3 m4 s0 s1 s2 s3 hb HC HB0 HM0 HS0 HP0 HO0
  go_upto_region 4 with (at_builtin; refine app_one rfl _ _ 36 9 rfl (.string ⟨#[]⟩) 1 16 Tryz.underlying36 infoStr rfl (by decide) (by decide) B _ _ _ (by rfl) HOv.out _ [.string (mkS (114 :: Lib.itoa m.dst))] (by rfl) rfl (fun x hx => by simp at hx; subst hx; rfl) rfl (by simp) hBz ?_; intro p1 W1 HA)
  have HB1 := Lib.hid (HBv.out.trans HA.out.below)
  have HM1 := Lib.hid (HA.out.blk HOv.out HMv.out (by decide))
  have HS1 := Lib.hid (HA.out.blk HOv.out HSv.out (by decide))
  have HP1 := Lib.hid (HPv.out.grown HA.out.2.2.1 HOv.out HGB.out)
  have HO1 : Hid (OwnS W1 B p1 [(114 :: Lib.itoa m.dst)]) := Lib.hid (OwnS.snoc HA.out.own)
  clear hBz HBv HMv HSv HPv HOv HA
  have m0 := HM1.out.cell 0
  have m1 := HM1.out.cell 1
  have m2 := HM1.out.cell 2
  have m3 := HM1.out.cell 3
  have m4 := HM1.out.cell 4
  have s0 := HS1.out.cell 0
  have s1 := HS1.out.cell 1
  have s2 := HS1.out.cell 2
  have s3 := HS1.out.cell 3
  go_upto_region 8 with fail
  clear m0 m1 m2 m3 m4 s0 s1 s2 s3
  have m0 := HM1.out.cell 0
  have m1 := HM1.out.cell 1
  have m2 := HM1.out.cell 2
  have m3 := HM1.out.cell 3
  have m4 := HM1.out.cell 4
  have s0 := HS1.out.cell 0
  have s1 := HS1.out.cell 1
  have s2 := HS1.out.cell 2
  have s3 := HS1.out.cell 3
  go_upto_region 10 with fail
  clear m0 m1 m2 m3 m4 s0 s1 s2 s3
  have m0 := HM1.out.cell 0
  have m1 := HM1.out.cell 1
  have m2 := HM1.out.cell 2
  have m3 := HM1.out.cell 3
  have m4 := HM1.out.cell 4
  have s0 := HS1.out.cell 0
  have s1 := HS1.out.cell 1
  have s2 := HS1.out.cell 2
  have s3 := HS1.out.cell 3
  have HC := Lib.hid (Itoa_any m.n hm.n _ HP1.out)
  go_wp2_with fail
  refine HC.out.mono ?_
  rintro e V2 ⟨rfl, hb⟩
  have HBv := Lib.hid (HB1.out.trans (hb.mono (by have := HM1.out.lt; omega)))
  have HMv := Lib.hid (HM1.out.below hb HM1.out.lt)
  have HSv := Lib.hid (HS1.out.below hb HS1.out.lt)
  have HPv := Lib.hid (HP1.out.own hb)
  have HOv := Lib.hid (HO1.out.below hb)
  have hBz : B ≤ V2.heap.size := by have := HMv.out.lt; omega
  clear m0 m1 m2 m3 m4 s0 s1 s2 s3 hb HC HB1 HM1 HS1 HP1 HO1
  go_upto_region 18 with (at_builtin; refine app_one rfl _ _ 36 9 rfl (.string ⟨#[]⟩) 1 16 Tryz.underlying36 infoStr rfl (by decide) (by decide) B _ _ _ (by rfl) HOv.out _ [.string (mkS (Lib.itoa m.n))] (by rfl) rfl (fun x hx => by simp at hx; subst hx; rfl) rfl (by simp) hBz ?_; intro p2 W2 HA)
  have HB2 := Lib.hid (HBv.out.trans HA.out.below)
  have HM2 := Lib.hid (HA.out.blk HOv.out HMv.out (by decide))
  have HS2 := Lib.hid (HA.out.blk HOv.out HSv.out (by decide))
  have HP2 := Lib.hid (HPv.out.grown HA.out.2.2.1 HOv.out HGB.out)
  have HO2 : Hid (OwnS W2 B p2 [(114 :: Lib.itoa m.dst), (Lib.itoa m.n)]) := Lib.hid (OwnS.snoc HA.out.own)
  clear hBz HBv HMv HSv HPv HOv HA
  go_wp2_with fail
  go_ret
  exact ⟨_, rfl, by rw [Hw.out, HE.out]; exact HO2.out, by rw [Hw.out]; exact HB2.out⟩
set_option maxRecDepth 100000 in
set_option maxHeartbeats 8000000 in
theorem partsTwo0 (m : Mac) (hm : m.ok) (rt : Int → List UInt8) (fv : Value) (w : World) (hp : Pow w) (hop : ¬ m.op = 34) (ho : ordL m.op = [100, 97]) :
    Calls Tryz.prog 80 #[.agg #[.int .i64 m.op, .int .i64 m.dst, .int .i64 m.a, .int .i64 m.b, .int .i64 m.n], .agg #[.bool true, .bool true, .bool false, .int .i64 0], fv] w fun e w' => ∃ v, e = .returned v ∧ OwnS w' w.heap.size v (partsL rt m) ∧ Below w.heap.size w w' := by
  have HE : Hid (partsL rt m = [(114 :: Lib.itoa m.dst), (114 :: Lib.itoa m.a)]) := Lib.hid (by unfold partsL; rw [ho]; rfl)
  obtain ⟨B, hB⟩ : ∃ B, w.heap.size = B := ⟨_, rfl⟩
  have HM0 : Hid (Blk ((w.alloc (.cells #[.int .i64 m.op, .int .i64 m.dst, .int .i64 m.a, .int .i64 m.b, .int .i64 m.n] 39)).alloc (.cells #[.bool true, .bool true, .bool false, .int .i64 0] 129)) B 39 #[.int .i64 m.op, .int .i64 m.dst, .int .i64 m.a, .int .i64 m.b, .int .i64 m.n]) := Lib.hid (by rw [← hB]; exact (Blk.new w _ _).alloc _)
  have HS0 : Hid (Blk ((w.alloc (.cells #[.int .i64 m.op, .int .i64 m.dst, .int .i64 m.a, .int .i64 m.b, .int .i64 m.n] 39)).alloc (.cells #[.bool true, .bool true, .bool false, .int .i64 0] 129)) (B + 1) 129 #[.bool true, .bool true, .bool false, .int .i64 0]) := Lib.hid (by simpa [← hB] using Blk.new (w.alloc (.cells #[.int .i64 m.op, .int .i64 m.dst, .int .i64 m.a, .int .i64 m.b, .int .i64 m.n] 39)) 129 #[.bool true, .bool true, .bool false, .int .i64 0])
  have HB0 : Hid (Below B w ((w.alloc (.cells #[.int .i64 m.op, .int .i64 m.dst, .int .i64 m.a, .int .i64 m.b, .int .i64 m.n] 39)).alloc (.cells #[.bool true, .bool true, .bool false, .int .i64 0] 129))) := Lib.hid (by rw [← hB]; exact ((Below.refl _ _).alloc (Nat.le_refl _) _).alloc (by simp) _)
  have HP0 : Hid (Pow ((w.alloc (.cells #[.int .i64 m.op, .int .i64 m.dst, .int .i64 m.a, .int .i64 m.b, .int .i64 m.n] 39)).alloc (.cells #[.bool true, .bool true, .bool false, .int .i64 0] 129))) := Lib.hid (hp.own (by rw [hB]; exact HB0.out))
  have HO0 : Hid (OwnS ((w.alloc (.cells #[.int .i64 m.op, .int .i64 m.dst, .int .i64 m.a, .int .i64 m.b, .int .i64 m.n] 39)).alloc (.cells #[.bool true, .bool true, .bool false, .int .i64 0] 129)) B (.slice none 0 0) []) := Lib.hid (OwnS.nil _ _)
  have Hw := Lib.hid hB
  have HGB : Hid (5 < B) := Lib.hid (by rw [← hB]; exact hp.lt)
  clear hp ho
  go_enter Tryz.func80, Tryz.ntmps80
  go_upto_region 2 with fail
  clear hB
  generalize (w.alloc (.cells #[.int .i64 m.op, .int .i64 m.dst, .int .i64 m.a, .int .i64 m.b, .int .i64 m.n] 39)).alloc (.cells #[.bool true, .bool true, .bool false, .int .i64 0] 129) = W0 at *
  have m0 := HM0.out.cell 0
  have m1 := HM0.out.cell 1
  have m2 := HM0.out.cell 2
  have m3 := HM0.out.cell 3
  have m4 := HM0.out.cell 4
  have s0 := HS0.out.cell 0
  have s1 := HS0.out.cell 1
  have s2 := HS0.out.cell 2
  have s3 := HS0.out.cell 3
  have HC := Lib.hid (reg_any m.dst hm.dst _ HP0.out)
  go_wp2_with fail
  refine HC.out.mono ?_
  rintro e V1 ⟨rfl, hb⟩
  have HBv := Lib.hid (HB0.out.trans (hb.mono (by have := HM0.out.lt; omega)))
  have HMv := Lib.hid (HM0.out.below hb HM0.out.lt)
  have HSv := Lib.hid (HS0.out.below hb HS0.out.lt)
  have HPv := Lib.hid (HP0.out.own hb)
  have HOv := Lib.hid (HO0.out.below hb)
  have hBz : B ≤ V1.heap.size := by have := HMv.out.lt; omega
  clear m0 m1 m2 m3 m4 s0 s1 s2 s3 hb HC HB0 HM0 HS0 HP0 HO0
  go_upto_region 4 with (at_builtin; refine app_one rfl _ _ 36 9 rfl (.string ⟨#[]⟩) 1 16 Tryz.underlying36 infoStr rfl (by decide) (by decide) B _ _ _ (by rfl) HOv.out _ [.string (mkS (114 :: Lib.itoa m.dst))] (by rfl) rfl (fun x hx => by simp at hx; subst hx; rfl) rfl (by simp) hBz ?_; intro p1 W1 HA)
  have HB1 := Lib.hid (HBv.out.trans HA.out.below)
  have HM1 := Lib.hid (HA.out.blk HOv.out HMv.out (by decide))
  have HS1 := Lib.hid (HA.out.blk HOv.out HSv.out (by decide))
  have HP1 := Lib.hid (HPv.out.grown HA.out.2.2.1 HOv.out HGB.out)
  have HO1 : Hid (OwnS W1 B p1 [(114 :: Lib.itoa m.dst)]) := Lib.hid (OwnS.snoc HA.out.own)
  clear hBz HBv HMv HSv HPv HOv HA
  have m0 := HM1.out.cell 0
  have m1 := HM1.out.cell 1
  have m2 := HM1.out.cell 2
  have m3 := HM1.out.cell 3
  have m4 := HM1.out.cell 4
  have s0 := HS1.out.cell 0
  have s1 := HS1.out.cell 1
  have s2 := HS1.out.cell 2
  have s3 := HS1.out.cell 3
  have HC := Lib.hid (reg_any m.a hm.a _ HP1.out)
  go_wp2_with fail
  refine HC.out.mono ?_
  rintro e V2 ⟨rfl, hb⟩
  have HBv := Lib.hid (HB1.out.trans (hb.mono (by have := HM1.out.lt; omega)))
  have HMv := Lib.hid (HM1.out.below hb HM1.out.lt)
  have HSv := Lib.hid (HS1.out.below hb HS1.out.lt)
  have HPv := Lib.hid (HP1.out.own hb)
  have HOv := Lib.hid (HO1.out.below hb)
  have hBz : B ≤ V2.heap.size := by have := HMv.out.lt; omega
  clear m0 m1 m2 m3 m4 s0 s1 s2 s3 hb HC HB1 HM1 HS1 HP1 HO1
  go_upto_region 8 with (at_builtin; refine app_one rfl _ _ 36 9 rfl (.string ⟨#[]⟩) 1 16 Tryz.underlying36 infoStr rfl (by decide) (by decide) B _ _ _ (by rfl) HOv.out _ [.string (mkS (114 :: Lib.itoa m.a))] (by rfl) rfl (fun x hx => by simp at hx; subst hx; rfl) rfl (by simp) hBz ?_; intro p2 W2 HA)
  have HB2 := Lib.hid (HBv.out.trans HA.out.below)
  have HM2 := Lib.hid (HA.out.blk HOv.out HMv.out (by decide))
  have HS2 := Lib.hid (HA.out.blk HOv.out HSv.out (by decide))
  have HP2 := Lib.hid (HPv.out.grown HA.out.2.2.1 HOv.out HGB.out)
  have HO2 : Hid (OwnS W2 B p2 [(114 :: Lib.itoa m.dst), (114 :: Lib.itoa m.a)]) := Lib.hid (OwnS.snoc HA.out.own)
  clear hBz HBv HMv HSv HPv HOv HA
  have m0 := HM2.out.cell 0
  have m1 := HM2.out.cell 1
  have m2 := HM2.out.cell 2
  have m3 := HM2.out.cell 3
  have m4 := HM2.out.cell 4
  have s0 := HS2.out.cell 0
  have s1 := HS2.out.cell 1
  have s2 := HS2.out.cell 2
  have s3 := HS2.out.cell 3
  go_upto_region 10 with fail
  clear m0 m1 m2 m3 m4 s0 s1 s2 s3
  have m0 := HM2.out.cell 0
  have m1 := HM2.out.cell 1
  have m2 := HM2.out.cell 2
  have m3 := HM2.out.cell 3
  have m4 := HM2.out.cell 4
  have s0 := HS2.out.cell 0
  have s1 := HS2.out.cell 1
  have s2 := HS2.out.cell 2
  have s3 := HS2.out.cell 3
  go_upto_region 18 with fail
  clear m0 m1 m2 m3 m4 s0 s1 s2 s3
  go_wp2_with fail
  go_ret
  exact ⟨_, rfl, by rw [Hw.out, HE.out]; exact HO2.out, by rw [Hw.out]; exact HB2.out⟩
set_option maxRecDepth 100000 in
set_option maxHeartbeats 8000000 in
theorem partsThree (m : Mac) (hm : m.ok) (rt : Int → List UInt8) (fv : Value) (w : World) (hp : Pow w) (hop : ¬ m.op = 34) (ho : ordL m.op = [100, 97, 98]) :
    Calls Tryz.prog 80 #[.agg #[.int .i64 m.op, .int .i64 m.dst, .int .i64 m.a, .int .i64 m.b, .int .i64 m.n], .agg #[.bool true, .bool true, .bool true, .int .i64 0], fv] w fun e w' => ∃ v, e = .returned v ∧ OwnS w' w.heap.size v (partsL rt m) ∧ Below w.heap.size w w' := by
  have HE : Hid (partsL rt m = [(114 :: Lib.itoa m.dst), (114 :: Lib.itoa m.a), (114 :: Lib.itoa m.b)]) := Lib.hid (by unfold partsL; rw [ho]; rfl)
  obtain ⟨B, hB⟩ : ∃ B, w.heap.size = B := ⟨_, rfl⟩
  have HM0 : Hid (Blk ((w.alloc (.cells #[.int .i64 m.op, .int .i64 m.dst, .int .i64 m.a, .int .i64 m.b, .int .i64 m.n] 39)).alloc (.cells #[.bool true, .bool true, .bool true, .int .i64 0] 129)) B 39 #[.int .i64 m.op, .int .i64 m.dst, .int .i64 m.a, .int .i64 m.b, .int .i64 m.n]) := Lib.hid (by rw [← hB]; exact (Blk.new w _ _).alloc _)
  have HS0 : Hid (Blk ((w.alloc (.cells #[.int .i64 m.op, .int .i64 m.dst, .int .i64 m.a, .int .i64 m.b, .int .i64 m.n] 39)).alloc (.cells #[.bool true, .bool true, .bool true, .int .i64 0] 129)) (B + 1) 129 #[.bool true, .bool true, .bool true, .int .i64 0]) := Lib.hid (by simpa [← hB] using Blk.new (w.alloc (.cells #[.int .i64 m.op, .int .i64 m.dst, .int .i64 m.a, .int .i64 m.b, .int .i64 m.n] 39)) 129 #[.bool true, .bool true, .bool true, .int .i64 0])
  have HB0 : Hid (Below B w ((w.alloc (.cells #[.int .i64 m.op, .int .i64 m.dst, .int .i64 m.a, .int .i64 m.b, .int .i64 m.n] 39)).alloc (.cells #[.bool true, .bool true, .bool true, .int .i64 0] 129))) := Lib.hid (by rw [← hB]; exact ((Below.refl _ _).alloc (Nat.le_refl _) _).alloc (by simp) _)
  have HP0 : Hid (Pow ((w.alloc (.cells #[.int .i64 m.op, .int .i64 m.dst, .int .i64 m.a, .int .i64 m.b, .int .i64 m.n] 39)).alloc (.cells #[.bool true, .bool true, .bool true, .int .i64 0] 129))) := Lib.hid (hp.own (by rw [hB]; exact HB0.out))
  have HO0 : Hid (OwnS ((w.alloc (.cells #[.int .i64 m.op, .int .i64 m.dst, .int .i64 m.a, .int .i64 m.b, .int .i64 m.n] 39)).alloc (.cells #[.bool true, .bool true, .bool true, .int .i64 0] 129)) B (.slice none 0 0) []) := Lib.hid (OwnS.nil _ _)
  have Hw := Lib.hid hB
  have HGB : Hid (5 < B) := Lib.hid (by rw [← hB]; exact hp.lt)
  clear hp ho
  go_enter Tryz.func80, Tryz.ntmps80
  go_upto_region 2 with fail
  clear hB
  generalize (w.alloc (.cells #[.int .i64 m.op, .int .i64 m.dst, .int .i64 m.a, .int .i64 m.b, .int .i64 m.n] 39)).alloc (.cells #[.bool true, .bool true, .bool true, .int .i64 0] 129) = W0 at *
  have m0 := HM0.out.cell 0
  have m1 := HM0.out.cell 1
  have m2 := HM0.out.cell 2
  have m3 := HM0.out.cell 3
  have m4 := HM0.out.cell 4
  have s0 := HS0.out.cell 0
  have s1 := HS0.out.cell 1
  have s2 := HS0.out.cell 2
  have s3 := HS0.out.cell 3
  have HC := Lib.hid (reg_any m.dst hm.dst _ HP0.out)
  go_wp2_with fail
  refine HC.out.mono ?_
  rintro e V1 ⟨rfl, hb⟩
  have HBv := Lib.hid (HB0.out.trans (hb.mono (by have := HM0.out.lt; omega)))
  have HMv := Lib.hid (HM0.out.below hb HM0.out.lt)
  have HSv := Lib.hid (HS0.out.below hb HS0.out.lt)
  have HPv := Lib.hid (HP0.out.own hb)
  have HOv := Lib.hid (HO0.out.below hb)
  have hBz : B ≤ V1.heap.size := by have := HMv.out.lt; omega
  clear m0 m1 m2 m3 m4 s0 s1 s2 s3 hb HC HB0 HM0 HS0 HP0 HO0
  go_upto_region 4 with (at_builtin; refine app_one rfl _ _ 36 9 rfl (.string ⟨#[]⟩) 1 16 Tryz.underlying36 infoStr rfl (by decide) (by decide) B _ _ _ (by rfl) HOv.out _ [.string (mkS (114 :: Lib.itoa m.dst))] (by rfl) rfl (fun x hx => by simp at hx; subst hx; rfl) rfl (by simp) hBz ?_; intro p1 W1 HA)
  have HB1 := Lib.hid (HBv.out.trans HA.out.below)
  have HM1 := Lib.hid (HA.out.blk HOv.out HMv.out (by decide))
  have HS1 := Lib.hid (HA.out.blk HOv.out HSv.out (by decide))
  have HP1 := Lib.hid (HPv.out.grown HA.out.2.2.1 HOv.out HGB.out)
  have HO1 : Hid (OwnS W1 B p1 [(114 :: Lib.itoa m.dst)]) := Lib.hid (OwnS.snoc HA.out.own)
  clear hBz HBv HMv HSv HPv HOv HA
  have m0 := HM1.out.cell 0
  have m1 := HM1.out.cell 1
  have m2 := HM1.out.cell 2
  have m3 := HM1.out.cell 3
  have m4 := HM1.out.cell 4
  have s0 := HS1.out.cell 0
  have s1 := HS1.out.cell 1
  have s2 := HS1.out.cell 2
  have s3 := HS1.out.cell 3
  have HC := Lib.hid (reg_any m.a hm.a _ HP1.out)
  go_wp2_with fail
  refine HC.out.mono ?_
  rintro e V2 ⟨rfl, hb⟩
  have HBv := Lib.hid (HB1.out.trans (hb.mono (by have := HM1.out.lt; omega)))
  have HMv := Lib.hid (HM1.out.below hb HM1.out.lt)
  have HSv := Lib.hid (HS1.out.below hb HS1.out.lt)
  have HPv := Lib.hid (HP1.out.own hb)
  have HOv := Lib.hid (HO1.out.below hb)
  have hBz : B ≤ V2.heap.size := by have := HMv.out.lt; omega
  clear m0 m1 m2 m3 m4 s0 s1 s2 s3 hb HC HB1 HM1 HS1 HP1 HO1
  go_upto_region 8 with (at_builtin; refine app_one rfl _ _ 36 9 rfl (.string ⟨#[]⟩) 1 16 Tryz.underlying36 infoStr rfl (by decide) (by decide) B _ _ _ (by rfl) HOv.out _ [.string (mkS (114 :: Lib.itoa m.a))] (by rfl) rfl (fun x hx => by simp at hx; subst hx; rfl) rfl (by simp) hBz ?_; intro p2 W2 HA)
  have HB2 := Lib.hid (HBv.out.trans HA.out.below)
  have HM2 := Lib.hid (HA.out.blk HOv.out HMv.out (by decide))
  have HS2 := Lib.hid (HA.out.blk HOv.out HSv.out (by decide))
  have HP2 := Lib.hid (HPv.out.grown HA.out.2.2.1 HOv.out HGB.out)
  have HO2 : Hid (OwnS W2 B p2 [(114 :: Lib.itoa m.dst), (114 :: Lib.itoa m.a)]) := Lib.hid (OwnS.snoc HA.out.own)
  clear hBz HBv HMv HSv HPv HOv HA
  have m0 := HM2.out.cell 0
  have m1 := HM2.out.cell 1
  have m2 := HM2.out.cell 2
  have m3 := HM2.out.cell 3
  have m4 := HM2.out.cell 4
  have s0 := HS2.out.cell 0
  have s1 := HS2.out.cell 1
  have s2 := HS2.out.cell 2
  have s3 := HS2.out.cell 3
  have HC := Lib.hid (reg_any m.b hm.b _ HP2.out)
  go_wp2_with fail
  refine HC.out.mono ?_
  rintro e V3 ⟨rfl, hb⟩
  have HBv := Lib.hid (HB2.out.trans (hb.mono (by have := HM2.out.lt; omega)))
  have HMv := Lib.hid (HM2.out.below hb HM2.out.lt)
  have HSv := Lib.hid (HS2.out.below hb HS2.out.lt)
  have HPv := Lib.hid (HP2.out.own hb)
  have HOv := Lib.hid (HO2.out.below hb)
  have hBz : B ≤ V3.heap.size := by have := HMv.out.lt; omega
  clear m0 m1 m2 m3 m4 s0 s1 s2 s3 hb HC HB2 HM2 HS2 HP2 HO2
  go_upto_region 10 with (at_builtin; refine app_one rfl _ _ 36 9 rfl (.string ⟨#[]⟩) 1 16 Tryz.underlying36 infoStr rfl (by decide) (by decide) B _ _ _ (by rfl) HOv.out _ [.string (mkS (114 :: Lib.itoa m.b))] (by rfl) rfl (fun x hx => by simp at hx; subst hx; rfl) rfl (by simp) hBz ?_; intro p3 W3 HA)
  have HB3 := Lib.hid (HBv.out.trans HA.out.below)
  have HM3 := Lib.hid (HA.out.blk HOv.out HMv.out (by decide))
  have HS3 := Lib.hid (HA.out.blk HOv.out HSv.out (by decide))
  have HP3 := Lib.hid (HPv.out.grown HA.out.2.2.1 HOv.out HGB.out)
  have HO3 : Hid (OwnS W3 B p3 [(114 :: Lib.itoa m.dst), (114 :: Lib.itoa m.a), (114 :: Lib.itoa m.b)]) := Lib.hid (OwnS.snoc HA.out.own)
  clear hBz HBv HMv HSv HPv HOv HA
  have m0 := HM3.out.cell 0
  have m1 := HM3.out.cell 1
  have m2 := HM3.out.cell 2
  have m3 := HM3.out.cell 3
  have m4 := HM3.out.cell 4
  have s0 := HS3.out.cell 0
  have s1 := HS3.out.cell 1
  have s2 := HS3.out.cell 2
  have s3 := HS3.out.cell 3
  go_upto_region 18 with fail
  clear m0 m1 m2 m3 m4 s0 s1 s2 s3
  go_wp2_with fail
  go_ret
  exact ⟨_, rfl, by rw [Hw.out, HE.out]; exact HO3.out, by rw [Hw.out]; exact HB3.out⟩
set_option maxRecDepth 100000 in
set_option maxHeartbeats 8000000 in
theorem partsTwoN (m : Mac) (hm : m.ok) (rt : Int → List UInt8) (fv : Value) (w : World) (hp : Pow w) (hop : ¬ m.op = 34) (ho : ordL m.op = [100, 97, 110]) :
    Calls Tryz.prog 80 #[.agg #[.int .i64 m.op, .int .i64 m.dst, .int .i64 m.a, .int .i64 m.b, .int .i64 m.n], .agg #[.bool true, .bool true, .bool false, .int .i64 1], fv] w fun e w' => ∃ v, e = .returned v ∧ OwnS w' w.heap.size v (partsL rt m) ∧ Below w.heap.size w w' := by
  have HE : Hid (partsL rt m = [(114 :: Lib.itoa m.dst), (114 :: Lib.itoa m.a), (Lib.itoa m.n)]) := Lib.hid (by unfold partsL; rw [ho]; rfl)
  obtain ⟨B, hB⟩ : ∃ B, w.heap.size = B := ⟨_, rfl⟩
  have HM0 : Hid (Blk ((w.alloc (.cells #[.int .i64 m.op, .int .i64 m.dst, .int .i64 m.a, .int .i64 m.b, .int .i64 m.n] 39)).alloc (.cells #[.bool true, .bool true, .bool false, .int .i64 1] 129)) B 39 #[.int .i64 m.op, .int .i64 m.dst, .int .i64 m.a, .int .i64 m.b, .int .i64 m.n]) := Lib.hid (by rw [← hB]; exact (Blk.new w _ _).alloc _)
  have HS0 : Hid (Blk ((w.alloc (.cells #[.int .i64 m.op, .int .i64 m.dst, .int .i64 m.a, .int .i64 m.b, .int .i64 m.n] 39)).alloc (.cells #[.bool true, .bool true, .bool false, .int .i64 1] 129)) (B + 1) 129 #[.bool true, .bool true, .bool false, .int .i64 1]) := Lib.hid (by simpa [← hB] using Blk.new (w.alloc (.cells #[.int .i64 m.op, .int .i64 m.dst, .int .i64 m.a, .int .i64 m.b, .int .i64 m.n] 39)) 129 #[.bool true, .bool true, .bool false, .int .i64 1])
  have HB0 : Hid (Below B w ((w.alloc (.cells #[.int .i64 m.op, .int .i64 m.dst, .int .i64 m.a, .int .i64 m.b, .int .i64 m.n] 39)).alloc (.cells #[.bool true, .bool true, .bool false, .int .i64 1] 129))) := Lib.hid (by rw [← hB]; exact ((Below.refl _ _).alloc (Nat.le_refl _) _).alloc (by simp) _)
  have HP0 : Hid (Pow ((w.alloc (.cells #[.int .i64 m.op, .int .i64 m.dst, .int .i64 m.a, .int .i64 m.b, .int .i64 m.n] 39)).alloc (.cells #[.bool true, .bool true, .bool false, .int .i64 1] 129))) := Lib.hid (hp.own (by rw [hB]; exact HB0.out))
  have HO0 : Hid (OwnS ((w.alloc (.cells #[.int .i64 m.op, .int .i64 m.dst, .int .i64 m.a, .int .i64 m.b, .int .i64 m.n] 39)).alloc (.cells #[.bool true, .bool true, .bool false, .int .i64 1] 129)) B (.slice none 0 0) []) := Lib.hid (OwnS.nil _ _)
  have Hw := Lib.hid hB
  have HGB : Hid (5 < B) := Lib.hid (by rw [← hB]; exact hp.lt)
  clear hp ho
  go_enter Tryz.func80, Tryz.ntmps80
  go_upto_region 2 with fail
  clear hB
  generalize (w.alloc (.cells #[.int .i64 m.op, .int .i64 m.dst, .int .i64 m.a, .int .i64 m.b, .int .i64 m.n] 39)).alloc (.cells #[.bool true, .bool true, .bool false, .int .i64 1] 129) = W0 at *
  have m0 := HM0.out.cell 0
  have m1 := HM0.out.cell 1
  have m2 := HM0.out.cell 2
  have m3 := HM0.out.cell 3
  have m4 := HM0.out.cell 4
  have s0 := HS0.out.cell 0
  have s1 := HS0.out.cell 1
  have s2 := HS0.out.cell 2
  have s3 := HS0.out.cell 3
  have HC := Lib.hid (reg_any m.dst hm.dst _ HP0.out)
  go_wp2_with fail
  refine HC.out.mono ?_
  rintro e V1 ⟨rfl, hb⟩
  have HBv := Lib.hid (HB0.out.trans (hb.mono (by have := HM0.out.lt; omega)))
  have HMv := Lib.hid (HM0.out.below hb HM0.out.lt)
  have HSv := Lib.hid (HS0.out.below hb HS0.out.lt)
  have HPv := Lib.hid (HP0.out.own hb)
  have HOv := Lib.hid (HO0.out.below hb)
  have hBz : B ≤ V1.heap.size := by have := HMv.out.lt; omega
  clear m0 m1 m2 m3 m4 s0 s1 s2 s3 hb HC HB0 HM0 HS0 HP0 HO0
  go_upto_region 4 with (at_builtin; refine app_one rfl _ _ 36 9 rfl (.string ⟨#[]⟩) 1 16 Tryz.underlying36 infoStr rfl (by decide) (by decide) B _ _ _ (by rfl) HOv.out _ [.string (mkS (114 :: Lib.itoa m.dst))] (by rfl) rfl (fun x hx => by simp at hx; subst hx; rfl) rfl (by simp) hBz ?_; intro p1 W1 HA)
  have HB1 := Lib.hid (HBv.out.trans HA.out.below)
  have HM1 := Lib.hid (HA.out.blk HOv.out HMv.out (by decide))
  have HS1 := Lib.hid (HA.out.blk HOv.out HSv.out (by decide))
  have HP1 := Lib.hid (HPv.out.grown HA.out.2.2.1 HOv.out HGB.out)
  have HO1 : Hid (OwnS W1 B p1 [(114 :: Lib.itoa m.dst)]) := Lib.hid (OwnS.snoc HA.out.own)
  clear hBz HBv HMv HSv HPv HOv HA
  have m0 := HM1.out.cell 0
  have m1 := HM1.out.cell 1
  have m2 := HM1.out.cell 2
  have m3 := HM1.out.cell 3
  have m4 := HM1.out.cell 4
  have s0 := HS1.out.cell 0
  have s1 := HS1.out.cell 1
  have s2 := HS1.out.cell 2
  have s3 := HS1.out.cell 3
  have HC := Lib.hid (reg_any m.a hm.a _ HP1.out)
  go_wp2_with fail
  refine HC.out.mono ?_
  rintro e V2 ⟨rfl, hb⟩
  have HBv := Lib.hid (HB1.out.trans (hb.mono (by have := HM1.out.lt; omega)))
  have HMv := Lib.hid (HM1.out.below hb HM1.out.lt)
  have HSv := Lib.hid (HS1.out.below hb HS1.out.lt)
  have HPv := Lib.hid (HP1.out.own hb)
  have HOv := Lib.hid (HO1.out.below hb)
  have hBz : B ≤ V2.heap.size := by have := HMv.out.lt; omega
  clear m0 m1 m2 m3 m4 s0 s1 s2 s3 hb HC HB1 HM1 HS1 HP1 HO1
  go_upto_region 8 with (at_builtin; refine app_one rfl _ _ 36 9 rfl (.string ⟨#[]⟩) 1 16 Tryz.underlying36 infoStr rfl (by decide) (by decide) B _ _ _ (by rfl) HOv.out _ [.string (mkS (114 :: Lib.itoa m.a))] (by rfl) rfl (fun x hx => by simp at hx; subst hx; rfl) rfl (by simp) hBz ?_; intro p2 W2 HA)
  have HB2 := Lib.hid (HBv.out.trans HA.out.below)
  have HM2 := Lib.hid (HA.out.blk HOv.out HMv.out (by decide))
  have HS2 := Lib.hid (HA.out.blk HOv.out HSv.out (by decide))
  have HP2 := Lib.hid (HPv.out.grown HA.out.2.2.1 HOv.out HGB.out)
  have HO2 : Hid (OwnS W2 B p2 [(114 :: Lib.itoa m.dst), (114 :: Lib.itoa m.a)]) := Lib.hid (OwnS.snoc HA.out.own)
  clear hBz HBv HMv HSv HPv HOv HA
  have m0 := HM2.out.cell 0
  have m1 := HM2.out.cell 1
  have m2 := HM2.out.cell 2
  have m3 := HM2.out.cell 3
  have m4 := HM2.out.cell 4
  have s0 := HS2.out.cell 0
  have s1 := HS2.out.cell 1
  have s2 := HS2.out.cell 2
  have s3 := HS2.out.cell 3
  go_upto_region 10 with fail
  clear m0 m1 m2 m3 m4 s0 s1 s2 s3
  have m0 := HM2.out.cell 0
  have m1 := HM2.out.cell 1
  have m2 := HM2.out.cell 2
  have m3 := HM2.out.cell 3
  have m4 := HM2.out.cell 4
  have s0 := HS2.out.cell 0
  have s1 := HS2.out.cell 1
  have s2 := HS2.out.cell 2
  have s3 := HS2.out.cell 3
  have HC := Lib.hid (Itoa_any m.n hm.n _ HP2.out)
  go_wp2_with fail
  refine HC.out.mono ?_
  rintro e V3 ⟨rfl, hb⟩
  have HBv := Lib.hid (HB2.out.trans (hb.mono (by have := HM2.out.lt; omega)))
  have HMv := Lib.hid (HM2.out.below hb HM2.out.lt)
  have HSv := Lib.hid (HS2.out.below hb HS2.out.lt)
  have HPv := Lib.hid (HP2.out.own hb)
  have HOv := Lib.hid (HO2.out.below hb)
  have hBz : B ≤ V3.heap.size := by have := HMv.out.lt; omega
  clear m0 m1 m2 m3 m4 s0 s1 s2 s3 hb HC HB2 HM2 HS2 HP2 HO2
  go_upto_region 18 with (at_builtin; refine app_one rfl _ _ 36 9 rfl (.string ⟨#[]⟩) 1 16 Tryz.underlying36 infoStr rfl (by decide) (by decide) B _ _ _ (by rfl) HOv.out _ [.string (mkS (Lib.itoa m.n))] (by rfl) rfl (fun x hx => by simp at hx; subst hx; rfl) rfl (by simp) hBz ?_; intro p3 W3 HA)
  have HB3 := Lib.hid (HBv.out.trans HA.out.below)
  have HM3 := Lib.hid (HA.out.blk HOv.out HMv.out (by decide))
  have HS3 := Lib.hid (HA.out.blk HOv.out HSv.out (by decide))
  have HP3 := Lib.hid (HPv.out.grown HA.out.2.2.1 HOv.out HGB.out)
  have HO3 : Hid (OwnS W3 B p3 [(114 :: Lib.itoa m.dst), (114 :: Lib.itoa m.a), (Lib.itoa m.n)]) := Lib.hid (OwnS.snoc HA.out.own)
  clear hBz HBv HMv HSv HPv HOv HA
  go_wp2_with fail
  go_ret
  exact ⟨_, rfl, by rw [Hw.out, HE.out]; exact HO3.out, by rw [Hw.out]; exact HB3.out⟩
set_option maxRecDepth 100000 in
set_option maxHeartbeats 8000000 in
theorem partsGetW (m : Mac) (hm : m.ok) (rt : Int → List UInt8) (fv : Value) (w : World) (hp : Pow w) (hop : ¬ m.op = 34) (ho : ordL m.op = [100, 119]) :
    Calls Tryz.prog 80 #[.agg #[.int .i64 m.op, .int .i64 m.dst, .int .i64 m.a, .int .i64 m.b, .int .i64 m.n], .agg #[.bool true, .bool false, .bool false, .int .i64 3], fv] w fun e w' => ∃ v, e = .returned v ∧ OwnS w' w.heap.size v (partsL rt m) ∧ Below w.heap.size w w' := by
  have HE : Hid (partsL rt m = [(114 :: Lib.itoa m.dst), (Lib.itoa m.n)]) := Lib.hid (by unfold partsL; rw [ho]; rfl)
  obtain ⟨B, hB⟩ : ∃ B, w.heap.size = B := ⟨_, rfl⟩
  have HM0 : Hid (Blk ((w.alloc (.cells #[.int .i64 m.op, .int .i64 m.dst, .int .i64 m.a, .int .i64 m.b, .int .i64 m.n] 39)).alloc (.cells #[.bool true, .bool false, .bool false, .int .i64 3] 129)) B 39 #[.int .i64 m.op, .int .i64 m.dst, .int .i64 m.a, .int .i64 m.b, .int .i64 m.n]) := Lib.hid (by rw [← hB]; exact (Blk.new w _ _).alloc _)
  have HS0 : Hid (Blk ((w.alloc (.cells #[.int .i64 m.op, .int .i64 m.dst, .int .i64 m.a, .int .i64 m.b, .int .i64 m.n] 39)).alloc (.cells #[.bool true, .bool false, .bool false, .int .i64 3] 129)) (B + 1) 129 #[.bool true, .bool false, .bool false, .int .i64 3]) := Lib.hid (by simpa [← hB] using Blk.new (w.alloc (.cells #[.int .i64 m.op, .int .i64 m.dst, .int .i64 m.a, .int .i64 m.b, .int .i64 m.n] 39)) 129 #[.bool true, .bool false, .bool false, .int .i64 3])
  have HB0 : Hid (Below B w ((w.alloc (.cells #[.int .i64 m.op, .int .i64 m.dst, .int .i64 m.a, .int .i64 m.b, .int .i64 m.n] 39)).alloc (.cells #[.bool true, .bool false, .bool false, .int .i64 3] 129))) := Lib.hid (by rw [← hB]; exact ((Below.refl _ _).alloc (Nat.le_refl _) _).alloc (by simp) _)
  have HP0 : Hid (Pow ((w.alloc (.cells #[.int .i64 m.op, .int .i64 m.dst, .int .i64 m.a, .int .i64 m.b, .int .i64 m.n] 39)).alloc (.cells #[.bool true, .bool false, .bool false, .int .i64 3] 129))) := Lib.hid (hp.own (by rw [hB]; exact HB0.out))
  have HO0 : Hid (OwnS ((w.alloc (.cells #[.int .i64 m.op, .int .i64 m.dst, .int .i64 m.a, .int .i64 m.b, .int .i64 m.n] 39)).alloc (.cells #[.bool true, .bool false, .bool false, .int .i64 3] 129)) B (.slice none 0 0) []) := Lib.hid (OwnS.nil _ _)
  have Hw := Lib.hid hB
  have HGB : Hid (5 < B) := Lib.hid (by rw [← hB]; exact hp.lt)
  clear hp ho
  go_enter Tryz.func80, Tryz.ntmps80
  go_upto_region 2 with fail
  clear hB
  generalize (w.alloc (.cells #[.int .i64 m.op, .int .i64 m.dst, .int .i64 m.a, .int .i64 m.b, .int .i64 m.n] 39)).alloc (.cells #[.bool true, .bool false, .bool false, .int .i64 3] 129) = W0 at *
  have m0 := HM0.out.cell 0
  have m1 := HM0.out.cell 1
  have m2 := HM0.out.cell 2
  have m3 := HM0.out.cell 3
  have m4 := HM0.out.cell 4
  have s0 := HS0.out.cell 0
  have s1 := HS0.out.cell 1
  have s2 := HS0.out.cell 2
  have s3 := HS0.out.cell 3
  have HC := Lib.hid (reg_any m.dst hm.dst _ HP0.out)
  go_wp2_with fail
  refine HC.out.mono ?_
  rintro e V1 ⟨rfl, hb⟩
  have HBv := Lib.hid (HB0.out.trans (hb.mono (by have := HM0.out.lt; omega)))
  have HMv := Lib.hid (HM0.out.below hb HM0.out.lt)
  have HSv := Lib.hid (HS0.out.below hb HS0.out.lt)
  have HPv := Lib.hid (HP0.out.own hb)
  have HOv := Lib.hid (HO0.out.below hb)
  have hBz : B ≤ V1.heap.size := by have := HMv.out.lt; omega
  clear m0 m1 m2 m3 m4 s0 s1 s2 s3 hb HC HB0 HM0 HS0 HP0 HO0
  go_upto_region 4 with (at_builtin; refine app_one rfl _ _ 36 9 rfl (.string ⟨#[]⟩) 1 16 Tryz.underlying36 infoStr rfl (by decide) (by decide) B _ _ _ (by rfl) HOv.out _ [.string (mkS (114 :: Lib.itoa m.dst))] (by rfl) rfl (fun x hx => by simp at hx; subst hx; rfl) rfl (by simp) hBz ?_; intro p1 W1 HA)
  have HB1 := Lib.hid (HBv.out.trans HA.out.below)
  have HM1 := Lib.hid (HA.out.blk HOv.out HMv.out (by decide))
  have HS1 := Lib.hid (HA.out.blk HOv.out HSv.out (by decide))
  have HP1 := Lib.hid (HPv.out.grown HA.out.2.2.1 HOv.out HGB.out)
  have HO1 : Hid (OwnS W1 B p1 [(114 :: Lib.itoa m.dst)]) := Lib.hid (OwnS.snoc HA.out.own)
  clear hBz HBv HMv HSv HPv HOv HA
  have m0 := HM1.out.cell 0
  have m1 := HM1.out.cell 1
  have m2 := HM1.out.cell 2
  have m3 := HM1.out.cell 3
  have m4 := HM1.out.cell 4
  have s0 := HS1.out.cell 0
  have s1 := HS1.out.cell 1
  have s2 := HS1.out.cell 2
  have s3 := HS1.out.cell 3
  go_upto_region 8 with fail
  clear m0 m1 m2 m3 m4 s0 s1 s2 s3
  have m0 := HM1.out.cell 0
  have m1 := HM1.out.cell 1
  have m2 := HM1.out.cell 2
  have m3 := HM1.out.cell 3
  have m4 := HM1.out.cell 4
  have s0 := HS1.out.cell 0
  have s1 := HS1.out.cell 1
  have s2 := HS1.out.cell 2
  have s3 := HS1.out.cell 3
  go_upto_region 10 with fail
  clear m0 m1 m2 m3 m4 s0 s1 s2 s3
  have m0 := HM1.out.cell 0
  have m1 := HM1.out.cell 1
  have m2 := HM1.out.cell 2
  have m3 := HM1.out.cell 3
  have m4 := HM1.out.cell 4
  have s0 := HS1.out.cell 0
  have s1 := HS1.out.cell 1
  have s2 := HS1.out.cell 2
  have s3 := HS1.out.cell 3
  have HC := Lib.hid (Itoa_any m.n hm.n _ HP1.out)
  go_wp2_with fail
  refine HC.out.mono ?_
  rintro e V2 ⟨rfl, hb⟩
  have HBv := Lib.hid (HB1.out.trans (hb.mono (by have := HM1.out.lt; omega)))
  have HMv := Lib.hid (HM1.out.below hb HM1.out.lt)
  have HSv := Lib.hid (HS1.out.below hb HS1.out.lt)
  have HPv := Lib.hid (HP1.out.own hb)
  have HOv := Lib.hid (HO1.out.below hb)
  have hBz : B ≤ V2.heap.size := by have := HMv.out.lt; omega
  clear m0 m1 m2 m3 m4 s0 s1 s2 s3 hb HC HB1 HM1 HS1 HP1 HO1
  go_upto_region 18 with (at_builtin; refine app_one rfl _ _ 36 9 rfl (.string ⟨#[]⟩) 1 16 Tryz.underlying36 infoStr rfl (by decide) (by decide) B _ _ _ (by rfl) HOv.out _ [.string (mkS (Lib.itoa m.n))] (by rfl) rfl (fun x hx => by simp at hx; subst hx; rfl) rfl (by simp) hBz ?_; intro p2 W2 HA)
  have HB2 := Lib.hid (HBv.out.trans HA.out.below)
  have HM2 := Lib.hid (HA.out.blk HOv.out HMv.out (by decide))
  have HS2 := Lib.hid (HA.out.blk HOv.out HSv.out (by decide))
  have HP2 := Lib.hid (HPv.out.grown HA.out.2.2.1 HOv.out HGB.out)
  have HO2 : Hid (OwnS W2 B p2 [(114 :: Lib.itoa m.dst), (Lib.itoa m.n)]) := Lib.hid (OwnS.snoc HA.out.own)
  clear hBz HBv HMv HSv HPv HOv HA
  go_wp2_with fail
  go_ret
  exact ⟨_, rfl, by rw [Hw.out, HE.out]; exact HO2.out, by rw [Hw.out]; exact HB2.out⟩
set_option maxRecDepth 100000 in
set_option maxHeartbeats 8000000 in
theorem partsPutW (m : Mac) (hm : m.ok) (rt : Int → List UInt8) (fv : Value) (w : World) (hp : Pow w) (hop : ¬ m.op = 34) (ho : ordL m.op = [97, 119]) :
    Calls Tryz.prog 80 #[.agg #[.int .i64 m.op, .int .i64 m.dst, .int .i64 m.a, .int .i64 m.b, .int .i64 m.n], .agg #[.bool false, .bool true, .bool false, .int .i64 3], fv] w fun e w' => ∃ v, e = .returned v ∧ OwnS w' w.heap.size v (partsL rt m) ∧ Below w.heap.size w w' := by
  have HE : Hid (partsL rt m = [(114 :: Lib.itoa m.a), (Lib.itoa m.n)]) := Lib.hid (by unfold partsL; rw [ho]; rfl)
  obtain ⟨B, hB⟩ : ∃ B, w.heap.size = B := ⟨_, rfl⟩
  have HM0 : Hid (Blk ((w.alloc (.cells #[.int .i64 m.op, .int .i64 m.dst, .int .i64 m.a, .int .i64 m.b, .int .i64 m.n] 39)).alloc (.cells #[.bool false, .bool true, .bool false, .int .i64 3] 129)) B 39 #[.int .i64 m.op, .int .i64 m.dst, .int .i64 m.a, .int .i64 m.b, .int .i64 m.n]) := Lib.hid (by rw [← hB]; exact (Blk.new w _ _).alloc _)
  have HS0 : Hid (Blk ((w.alloc (.cells #[.int .i64 m.op, .int .i64 m.dst, .int .i64 m.a, .int .i64 m.b, .int .i64 m.n] 39)).alloc (.cells #[.bool false, .bool true, .bool false, .int .i64 3] 129)) (B + 1) 129 #[.bool false, .bool true, .bool false, .int .i64 3]) := Lib.hid (by simpa [← hB] using Blk.new (w.alloc (.cells #[.int .i64 m.op, .int .i64 m.dst, .int .i64 m.a, .int .i64 m.b, .int .i64 m.n] 39)) 129 #[.bool false, .bool true, .bool false, .int .i64 3])
  have HB0 : Hid (Below B w ((w.alloc (.cells #[.int .i64 m.op, .int .i64 m.dst, .int .i64 m.a, .int .i64 m.b, .int .i64 m.n] 39)).alloc (.cells #[.bool false, .bool true, .bool false, .int .i64 3] 129))) := Lib.hid (by rw [← hB]; exact ((Below.refl _ _).alloc (Nat.le_refl _) _).alloc (by simp) _)
  have HP0 : Hid (Pow ((w.alloc (.cells #[.int .i64 m.op, .int .i64 m.dst, .int .i64 m.a, .int .i64 m.b, .int .i64 m.n] 39)).alloc (.cells #[.bool false, .bool true, .bool false, .int .i64 3] 129))) := Lib.hid (hp.own (by rw [hB]; exact HB0.out))
  have HO0 : Hid (OwnS ((w.alloc (.cells #[.int .i64 m.op, .int .i64 m.dst, .int .i64 m.a, .int .i64 m.b, .int .i64 m.n] 39)).alloc (.cells #[.bool false, .bool true, .bool false, .int .i64 3] 129)) B (.slice none 0 0) []) := Lib.hid (OwnS.nil _ _)
  have Hw := Lib.hid hB
  have HGB : Hid (5 < B) := Lib.hid (by rw [← hB]; exact hp.lt)
  clear hp ho
  go_enter Tryz.func80, Tryz.ntmps80
  go_upto_region 2 with fail
  clear hB
  generalize (w.alloc (.cells #[.int .i64 m.op, .int .i64 m.dst, .int .i64 m.a, .int .i64 m.b, .int .i64 m.n] 39)).alloc (.cells #[.bool false, .bool true, .bool false, .int .i64 3] 129) = W0 at *
  have m0 := HM0.out.cell 0
  have m1 := HM0.out.cell 1
  have m2 := HM0.out.cell 2
  have m3 := HM0.out.cell 3
  have m4 := HM0.out.cell 4
  have s0 := HS0.out.cell 0
  have s1 := HS0.out.cell 1
  have s2 := HS0.out.cell 2
  have s3 := HS0.out.cell 3
  go_upto_region 4 with fail
  clear m0 m1 m2 m3 m4 s0 s1 s2 s3
  have m0 := HM0.out.cell 0
  have m1 := HM0.out.cell 1
  have m2 := HM0.out.cell 2
  have m3 := HM0.out.cell 3
  have m4 := HM0.out.cell 4
  have s0 := HS0.out.cell 0
  have s1 := HS0.out.cell 1
  have s2 := HS0.out.cell 2
  have s3 := HS0.out.cell 3
  have HC := Lib.hid (reg_any m.a hm.a _ HP0.out)
  go_wp2_with fail
  refine HC.out.mono ?_
  rintro e V1 ⟨rfl, hb⟩
  have HBv := Lib.hid (HB0.out.trans (hb.mono (by have := HM0.out.lt; omega)))
  have HMv := Lib.hid (HM0.out.below hb HM0.out.lt)
  have HSv := Lib.hid (HS0.out.below hb HS0.out.lt)
  have HPv := Lib.hid (HP0.out.own hb)
  have HOv := Lib.hid (HO0.out.below hb)
  have hBz : B ≤ V1.heap.size := by have := HMv.out.lt; omega
  clear m0 m1 m2 m3 m4 s0 s1 s2 s3 hb HC HB0 HM0 HS0 HP0 HO0
  go_upto_region 8 with (at_builtin; refine app_one rfl _ _ 36 9 rfl (.string ⟨#[]⟩) 1 16 Tryz.underlying36 infoStr rfl (by decide) (by decide) B _ _ _ (by rfl) HOv.out _ [.string (mkS (114 :: Lib.itoa m.a))] (by rfl) rfl (fun x hx => by simp at hx; subst hx; rfl) rfl (by simp) hBz ?_; intro p1 W1 HA)
  have HB1 := Lib.hid (HBv.out.trans HA.out.below)
  have HM1 := Lib.hid (HA.out.blk HOv.out HMv.out (by decide))
  have HS1 := Lib.hid (HA.out.blk HOv.out HSv.out (by decide))
  have HP1 := Lib.hid (HPv.out.grown HA.out.2.2.1 HOv.out HGB.out)
  have HO1 : Hid (OwnS W1 B p1 [(114 :: Lib.itoa m.a)]) := Lib.hid (OwnS.snoc HA.out.own)
  clear hBz HBv HMv HSv HPv HOv HA
  have m0 := HM1.out.cell 0
  have m1 := HM1.out.cell 1
  have m2 := HM1.out.cell 2
  have m3 := HM1.out.cell 3
  have m4 := HM1.out.cell 4
  have s0 := HS1.out.cell 0
  have s1 := HS1.out.cell 1
  have s2 := HS1.out.cell 2
  have s3 := HS1.out.cell 3
  go_upto_region 10 with fail
  clear m0 m1 m2 m3 m4 s0 s1 s2 s3
  have m0 := HM1.out.cell 0
  have m1 := HM1.out.cell 1
  have m2 := HM1.out.cell 2
  have m3 := HM1.out.cell 3
  have m4 := HM1.out.cell 4
  have s0 := HS1.out.cell 0
  have s1 := HS1.out.cell 1
  have s2 := HS1.out.cell 2
  have s3 := HS1.out.cell 3
  have HC := Lib.hid (Itoa_any m.n hm.n _ HP1.out)
  go_wp2_with fail
  refine HC.out.mono ?_
  rintro e V2 ⟨rfl, hb⟩
  have HBv := Lib.hid (HB1.out.trans (hb.mono (by have := HM1.out.lt; omega)))
  have HMv := Lib.hid (HM1.out.below hb HM1.out.lt)
  have HSv := Lib.hid (HS1.out.below hb HS1.out.lt)
  have HPv := Lib.hid (HP1.out.own hb)
  have HOv := Lib.hid (HO1.out.below hb)
  have hBz : B ≤ V2.heap.size := by have := HMv.out.lt; omega
  clear m0 m1 m2 m3 m4 s0 s1 s2 s3 hb HC HB1 HM1 HS1 HP1 HO1
  go_upto_region 18 with (at_builtin; refine app_one rfl _ _ 36 9 rfl (.string ⟨#[]⟩) 1 16 Tryz.underlying36 infoStr rfl (by decide) (by decide) B _ _ _ (by rfl) HOv.out _ [.string (mkS (Lib.itoa m.n))] (by rfl) rfl (fun x hx => by simp at hx; subst hx; rfl) rfl (by simp) hBz ?_; intro p2 W2 HA)
  have HB2 := Lib.hid (HBv.out.trans HA.out.below)
  have HM2 := Lib.hid (HA.out.blk HOv.out HMv.out (by decide))
  have HS2 := Lib.hid (HA.out.blk HOv.out HSv.out (by decide))
  have HP2 := Lib.hid (HPv.out.grown HA.out.2.2.1 HOv.out HGB.out)
  have HO2 : Hid (OwnS W2 B p2 [(114 :: Lib.itoa m.a), (Lib.itoa m.n)]) := Lib.hid (OwnS.snoc HA.out.own)
  clear hBz HBv HMv HSv HPv HOv HA
  go_wp2_with fail
  go_ret
  exact ⟨_, rfl, by rw [Hw.out, HE.out]; exact HO2.out, by rw [Hw.out]; exact HB2.out⟩
set_option maxRecDepth 100000 in
set_option maxHeartbeats 8000000 in
theorem partsJmp (m : Mac) (hm : m.ok) (rt : Int → List UInt8) (fv : Value) (w : World) (hp : Pow w) (hop : ¬ m.op = 34) (ho : ordL m.op = [116]) :
    Calls Tryz.prog 80 #[.agg #[.int .i64 m.op, .int .i64 m.dst, .int .i64 m.a, .int .i64 m.b, .int .i64 m.n], .agg #[.bool false, .bool false, .bool false, .int .i64 2], fv] w fun e w' => ∃ v, e = .returned v ∧ OwnS w' w.heap.size v (partsL rt m) ∧ Below w.heap.size w w' := by
  have HE : Hid (partsL rt m = [(76 :: Lib.itoa m.n)]) := Lib.hid (by unfold partsL; rw [ho]; rfl)
  obtain ⟨B, hB⟩ : ∃ B, w.heap.size = B := ⟨_, rfl⟩
  have HM0 : Hid (Blk ((w.alloc (.cells #[.int .i64 m.op, .int .i64 m.dst, .int .i64 m.a, .int .i64 m.b, .int .i64 m.n] 39)).alloc (.cells #[.bool false, .bool false, .bool false, .int .i64 2] 129)) B 39 #[.int .i64 m.op, .int .i64 m.dst, .int .i64 m.a, .int .i64 m.b, .int .i64 m.n]) := Lib.hid (by rw [← hB]; exact (Blk.new w _ _).alloc _)
  have HS0 : Hid (Blk ((w.alloc (.cells #[.int .i64 m.op, .int .i64 m.dst, .int .i64 m.a, .int .i64 m.b, .int .i64 m.n] 39)).alloc (.cells #[.bool false, .bool false, .bool false, .int .i64 2] 129)) (B + 1) 129 #[.bool false, .bool false, .bool false, .int .i64 2]) := Lib.hid (by simpa [← hB] using Blk.new (w.alloc (.cells #[.int .i64 m.op, .int .i64 m.dst, .int .i64 m.a, .int .i64 m.b, .int .i64 m.n] 39)) 129 #[.bool false, .bool false, .bool false, .int .i64 2])
  have HB0 : Hid (Below B w ((w.alloc (.cells #[.int .i64 m.op, .int .i64 m.dst, .int .i64 m.a, .int .i64 m.b, .int .i64 m.n] 39)).alloc (.cells #[.bool false, .bool false, .bool false, .int .i64 2] 129))) := Lib.hid (by rw [← hB]; exact ((Below.refl _ _).alloc (Nat.le_refl _) _).alloc (by simp) _)
  have HP0 : Hid (Pow ((w.alloc (.cells #[.int .i64 m.op, .int .i64 m.dst, .int .i64 m.a, .int .i64 m.b, .int .i64 m.n] 39)).alloc (.cells #[.bool false, .bool false, .bool false, .int .i64 2] 129))) := Lib.hid (hp.own (by rw [hB]; exact HB0.out))
  have HO0 : Hid (OwnS ((w.alloc (.cells #[.int .i64 m.op, .int .i64 m.dst, .int .i64 m.a, .int .i64 m.b, .int .i64 m.n] 39)).alloc (.cells #[.bool false, .bool false, .bool false, .int .i64 2] 129)) B (.slice none 0 0) []) := Lib.hid (OwnS.nil _ _)
  have Hw := Lib.hid hB
  have HGB : Hid (5 < B) := Lib.hid (by rw [← hB]; exact hp.lt)
  clear hp ho
  go_enter Tryz.func80, Tryz.ntmps80
  go_upto_region 2 with fail
  clear hB
  generalize (w.alloc (.cells #[.int .i64 m.op, .int .i64 m.dst, .int .i64 m.a, .int .i64 m.b, .int .i64 m.n] 39)).alloc (.cells #[.bool false, .bool false, .bool false, .int .i64 2] 129) = W0 at *
  have m0 := HM0.out.cell 0
  have m1 := HM0.out.cell 1
  have m2 := HM0.out.cell 2
  have m3 := HM0.out.cell 3
  have m4 := HM0.out.cell 4
  have s0 := HS0.out.cell 0
  have s1 := HS0.out.cell 1
  have s2 := HS0.out.cell 2
  have s3 := HS0.out.cell 3
  go_upto_region 4 with fail
  clear m0 m1 m2 m3 m4 s0 s1 s2 s3
  have m0 := HM0.out.cell 0
  have m1 := HM0.out.cell 1
  have m2 := HM0.out.cell 2
  have m3 := HM0.out.cell 3
  have m4 := HM0.out.cell 4
  have s0 := HS0.out.cell 0
  have s1 := HS0.out.cell 1
  have s2 := HS0.out.cell 2
  have s3 := HS0.out.cell 3
  go_upto_region 8 with fail
  clear m0 m1 m2 m3 m4 s0 s1 s2 s3
  have m0 := HM0.out.cell 0
  have m1 := HM0.out.cell 1
  have m2 := HM0.out.cell 2
  have m3 := HM0.out.cell 3
  have m4 := HM0.out.cell 4
  have s0 := HS0.out.cell 0
  have s1 := HS0.out.cell 1
  have s2 := HS0.out.cell 2
  have s3 := HS0.out.cell 3
  go_upto_region 10 with fail
  clear m0 m1 m2 m3 m4 s0 s1 s2 s3
  have m0 := HM0.out.cell 0
  have m1 := HM0.out.cell 1
  have m2 := HM0.out.cell 2
  have m3 := HM0.out.cell 3
  have m4 := HM0.out.cell 4
  have s0 := HS0.out.cell 0
  have s1 := HS0.out.cell 1
  have s2 := HS0.out.cell 2
  have s3 := HS0.out.cell 3
  have HC := Lib.hid (label_any m.n hm.n _ HP0.out)
  go_wp2_with fail
  refine HC.out.mono ?_
  rintro e V1 ⟨rfl, hb⟩
  have HBv := Lib.hid (HB0.out.trans (hb.mono (by have := HM0.out.lt; omega)))
  have HMv := Lib.hid (HM0.out.below hb HM0.out.lt)
  have HSv := Lib.hid (HS0.out.below hb HS0.out.lt)
  have HPv := Lib.hid (HP0.out.own hb)
  have HOv := Lib.hid (HO0.out.below hb)
  have hBz : B ≤ V1.heap.size := by have := HMv.out.lt; omega
  clear m0 m1 m2 m3 m4 s0 s1 s2 s3 hb HC HB0 HM0 HS0 HP0 HO0
  go_upto_region 18 with (at_builtin; refine app_one rfl _ _ 36 9 rfl (.string ⟨#[]⟩) 1 16 Tryz.underlying36 infoStr rfl (by decide) (by decide) B _ _ _ (by rfl) HOv.out _ [.string (mkS (76 :: Lib.itoa m.n))] (by rfl) rfl (fun x hx => by simp at hx; subst hx; rfl) rfl (by simp) hBz ?_; intro p1 W1 HA)
  have HB1 := Lib.hid (HBv.out.trans HA.out.below)
  have HM1 := Lib.hid (HA.out.blk HOv.out HMv.out (by decide))
  have HS1 := Lib.hid (HA.out.blk HOv.out HSv.out (by decide))
  have HP1 := Lib.hid (HPv.out.grown HA.out.2.2.1 HOv.out HGB.out)
  have HO1 : Hid (OwnS W1 B p1 [(76 :: Lib.itoa m.n)]) := Lib.hid (OwnS.snoc HA.out.own)
  clear hBz HBv HMv HSv HPv HOv HA
  go_wp2_with fail
  go_ret
  exact ⟨_, rfl, by rw [Hw.out, HE.out]; exact HO1.out, by rw [Hw.out]; exact HB1.out⟩
set_option maxRecDepth 100000 in
set_option maxHeartbeats 8000000 in
theorem partsIfA (m : Mac) (hm : m.ok) (rt : Int → List UInt8) (fv : Value) (w : World) (hp : Pow w) (hop : ¬ m.op = 34) (ho : ordL m.op = [97, 116]) :
    Calls Tryz.prog 80 #[.agg #[.int .i64 m.op, .int .i64 m.dst, .int .i64 m.a, .int .i64 m.b, .int .i64 m.n], .agg #[.bool false, .bool true, .bool false, .int .i64 2], fv] w fun e w' => ∃ v, e = .returned v ∧ OwnS w' w.heap.size v (partsL rt m) ∧ Below w.heap.size w w' := by
  have HE : Hid (partsL rt m = [(114 :: Lib.itoa m.a), (76 :: Lib.itoa m.n)]) := Lib.hid (by unfold partsL; rw [ho]; rfl)
  obtain ⟨B, hB⟩ : ∃ B, w.heap.size = B := ⟨_, rfl⟩
  have HM0 : Hid (Blk ((w.alloc (.cells #[.int .i64 m.op, .int .i64 m.dst, .int .i64 m.a, .int .i64 m.b, .int .i64 m.n] 39)).alloc (.cells #[.bool false, .bool true, .bool false, .int .i64 2] 129)) B 39 #[.int .i64 m.op, .int .i64 m.dst, .int .i64 m.a, .int .i64 m.b, .int .i64 m.n]) := Lib.hid (by rw [← hB]; exact (Blk.new w _ _).alloc _)
  have HS0 : Hid (Blk ((w.alloc (.cells #[.int .i64 m.op, .int .i64 m.dst, .int .i64 m.a, .int .i64 m.b, .int .i64 m.n] 39)).alloc (.cells #[.bool false, .bool true, .bool false, .int .i64 2] 129)) (B + 1) 129 #[.bool false, .bool true, .bool false, .int .i64 2]) := Lib.hid (by simpa [← hB] using Blk.new (w.alloc (.cells #[.int .i64 m.op, .int .i64 m.dst, .int .i64 m.a, .int .i64 m.b, .int .i64 m.n] 39)) 129 #[.bool false, .bool true, .bool false, .int .i64 2])
  have HB0 : Hid (Below B w ((w.alloc (.cells #[.int .i64 m.op, .int .i64 m.dst, .int .i64 m.a, .int .i64 m.b, .int .i64 m.n] 39)).alloc (.cells #[.bool false, .bool true, .bool false, .int .i64 2] 129))) := Lib.hid (by rw [← hB]; exact ((Below.refl _ _).alloc (Nat.le_refl _) _).alloc (by simp) _)
  have HP0 : Hid (Pow ((w.alloc (.cells #[.int .i64 m.op, .int .i64 m.dst, .int .i64 m.a, .int .i64 m.b, .int .i64 m.n] 39)).alloc (.cells #[.bool false, .bool true, .bool false, .int .i64 2] 129))) := Lib.hid (hp.own (by rw [hB]; exact HB0.out))
  have HO0 : Hid (OwnS ((w.alloc (.cells #[.int .i64 m.op, .int .i64 m.dst, .int .i64 m.a, .int .i64 m.b, .int .i64 m.n] 39)).alloc (.cells #[.bool false, .bool true, .bool false, .int .i64 2] 129)) B (.slice none 0 0) []) := Lib.hid (OwnS.nil _ _)
  have Hw := Lib.hid hB
  have HGB : Hid (5 < B) := Lib.hid (by rw [← hB]; exact hp.lt)
  clear hp ho
  go_enter Tryz.func80, Tryz.ntmps80
  go_upto_region 2 with fail
  clear hB
  generalize (w.alloc (.cells #[.int .i64 m.op, .int .i64 m.dst, .int .i64 m.a, .int .i64 m.b, .int .i64 m.n] 39)).alloc (.cells #[.bool false, .bool true, .bool false, .int .i64 2] 129) = W0 at *
  have m0 := HM0.out.cell 0
  have m1 := HM0.out.cell 1
  have m2 := HM0.out.cell 2
  have m3 := HM0.out.cell 3
  have m4 := HM0.out.cell 4
  have s0 := HS0.out.cell 0
  have s1 := HS0.out.cell 1
  have s2 := HS0.out.cell 2
  have s3 := HS0.out.cell 3
  go_upto_region 4 with fail
  clear m0 m1 m2 m3 m4 s0 s1 s2 s3
  have m0 := HM0.out.cell 0
  have m1 := HM0.out.cell 1
  have m2 := HM0.out.cell 2
  have m3 := HM0.out.cell 3
  have m4 := HM0.out.cell 4
  have s0 := HS0.out.cell 0
  have s1 := HS0.out.cell 1
  have s2 := HS0.out.cell 2
  have s3 := HS0.out.cell 3
  have HC := Lib.hid (reg_any m.a hm.a _ HP0.out)
  go_wp2_with fail
  refine HC.out.mono ?_
  rintro e V1 ⟨rfl, hb⟩
  have HBv := Lib.hid (HB0.out.trans (hb.mono (by have := HM0.out.lt; omega)))
  have HMv := Lib.hid (HM0.out.below hb HM0.out.lt)
  have HSv := Lib.hid (HS0.out.below hb HS0.out.lt)
  have HPv := Lib.hid (HP0.out.own hb)
  have HOv := Lib.hid (HO0.out.below hb)
  have hBz : B ≤ V1.heap.size := by have := HMv.out.lt; omega
  clear m0 m1 m2 m3 m4 s0 s1 s2 s3 hb HC HB0 HM0 HS0 HP0 HO0
  go_upto_region 8 with (at_builtin; refine app_one rfl _ _ 36 9 rfl (.string ⟨#[]⟩) 1 16 Tryz.underlying36 infoStr rfl (by decide) (by decide) B _ _ _ (by rfl) HOv.out _ [.string (mkS (114 :: Lib.itoa m.a))] (by rfl) rfl (fun x hx => by simp at hx; subst hx; rfl) rfl (by simp) hBz ?_; intro p1 W1 HA)
  have HB1 := Lib.hid (HBv.out.trans HA.out.below)
  have HM1 := Lib.hid (HA.out.blk HOv.out HMv.out (by decide))
  have HS1 := Lib.hid (HA.out.blk HOv.out HSv.out (by decide))
  have HP1 := Lib.hid (HPv.out.grown HA.out.2.2.1 HOv.out HGB.out)
  have HO1 : Hid (OwnS W1 B p1 [(114 :: Lib.itoa m.a)]) := Lib.hid (OwnS.snoc HA.out.own)
  clear hBz HBv HMv HSv HPv HOv HA
  have m0 := HM1.out.cell 0
  have m1 := HM1.out.cell 1
  have m2 := HM1.out.cell 2
  have m3 := HM1.out.cell 3
  have m4 := HM1.out.cell 4
  have s0 := HS1.out.cell 0
  have s1 := HS1.out.cell 1
  have s2 := HS1.out.cell 2
  have s3 := HS1.out.cell 3
  go_upto_region 10 with fail
  clear m0 m1 m2 m3 m4 s0 s1 s2 s3
  have m0 := HM1.out.cell 0
  have m1 := HM1.out.cell 1
  have m2 := HM1.out.cell 2
  have m3 := HM1.out.cell 3
  have m4 := HM1.out.cell 4
  have s0 := HS1.out.cell 0
  have s1 := HS1.out.cell 1
  have s2 := HS1.out.cell 2
  have s3 := HS1.out.cell 3
  have HC := Lib.hid (label_any m.n hm.n _ HP1.out)
  go_wp2_with fail
  refine HC.out.mono ?_
  rintro e V2 ⟨rfl, hb⟩
  have HBv := Lib.hid (HB1.out.trans (hb.mono (by have := HM1.out.lt; omega)))
  have HMv := Lib.hid (HM1.out.below hb HM1.out.lt)
  have HSv := Lib.hid (HS1.out.below hb HS1.out.lt)
  have HPv := Lib.hid (HP1.out.own hb)
  have HOv := Lib.hid (HO1.out.below hb)
  have hBz : B ≤ V2.heap.size := by have := HMv.out.lt; omega
  clear m0 m1 m2 m3 m4 s0 s1 s2 s3 hb HC HB1 HM1 HS1 HP1 HO1
  go_upto_region 18 with (at_builtin; refine app_one rfl _ _ 36 9 rfl (.string ⟨#[]⟩) 1 16 Tryz.underlying36 infoStr rfl (by decide) (by decide) B _ _ _ (by rfl) HOv.out _ [.string (mkS (76 :: Lib.itoa m.n))] (by rfl) rfl (fun x hx => by simp at hx; subst hx; rfl) rfl (by simp) hBz ?_; intro p2 W2 HA)
  have HB2 := Lib.hid (HBv.out.trans HA.out.below)
  have HM2 := Lib.hid (HA.out.blk HOv.out HMv.out (by decide))
  have HS2 := Lib.hid (HA.out.blk HOv.out HSv.out (by decide))
  have HP2 := Lib.hid (HPv.out.grown HA.out.2.2.1 HOv.out HGB.out)
  have HO2 : Hid (OwnS W2 B p2 [(114 :: Lib.itoa m.a), (76 :: Lib.itoa m.n)]) := Lib.hid (OwnS.snoc HA.out.own)
  clear hBz HBv HMv HSv HPv HOv HA
  go_wp2_with fail
  go_ret
  exact ⟨_, rfl, by rw [Hw.out, HE.out]; exact HO2.out, by rw [Hw.out]; exact HB2.out⟩
set_option maxRecDepth 100000 in
set_option maxHeartbeats 8000000 in
theorem partsIfAB (m : Mac) (hm : m.ok) (rt : Int → List UInt8) (fv : Value) (w : World) (hp : Pow w) (hop : ¬ m.op = 34) (ho : ordL m.op = [97, 98, 116]) :
    Calls Tryz.prog 80 #[.agg #[.int .i64 m.op, .int .i64 m.dst, .int .i64 m.a, .int .i64 m.b, .int .i64 m.n], .agg #[.bool false, .bool true, .bool true, .int .i64 2], fv] w fun e w' => ∃ v, e = .returned v ∧ OwnS w' w.heap.size v (partsL rt m) ∧ Below w.heap.size w w' := by
  have HE : Hid (partsL rt m = [(114 :: Lib.itoa m.a), (114 :: Lib.itoa m.b), (76 :: Lib.itoa m.n)]) := Lib.hid (by unfold partsL; rw [ho]; rfl)
  obtain ⟨B, hB⟩ : ∃ B, w.heap.size = B := ⟨_, rfl⟩
  have HM0 : Hid (Blk ((w.alloc (.cells #[.int .i64 m.op, .int .i64 m.dst, .int .i64 m.a, .int .i64 m.b, .int .i64 m.n] 39)).alloc (.cells #[.bool false, .bool true, .bool true, .int .i64 2] 129)) B 39 #[.int .i64 m.op, .int .i64 m.dst, .int .i64 m.a, .int .i64 m.b, .int .i64 m.n]) := Lib.hid (by rw [← hB]; exact (Blk.new w _ _).alloc _)
  have HS0 : Hid (Blk ((w.alloc (.cells #[.int .i64 m.op, .int .i64 m.dst, .int .i64 m.a, .int .i64 m.b, .int .i64 m.n] 39)).alloc (.cells #[.bool false, .bool true, .bool true, .int .i64 2] 129)) (B + 1) 129 #[.bool false, .bool true, .bool true, .int .i64 2]) := Lib.hid (by simpa [← hB] using Blk.new (w.alloc (.cells #[.int .i64 m.op, .int .i64 m.dst, .int .i64 m.a, .int .i64 m.b, .int .i64 m.n] 39)) 129 #[.bool false, .bool true, .bool true, .int .i64 2])
  have HB0 : Hid (Below B w ((w.alloc (.cells #[.int .i64 m.op, .int .i64 m.dst, .int .i64 m.a, .int .i64 m.b, .int .i64 m.n] 39)).alloc (.cells #[.bool false, .bool true, .bool true, .int .i64 2] 129))) := Lib.hid (by rw [← hB]; exact ((Below.refl _ _).alloc (Nat.le_refl _) _).alloc (by simp) _)
  have HP0 : Hid (Pow ((w.alloc (.cells #[.int .i64 m.op, .int .i64 m.dst, .int .i64 m.a, .int .i64 m.b, .int .i64 m.n] 39)).alloc (.cells #[.bool false, .bool true, .bool true, .int .i64 2] 129))) := Lib.hid (hp.own (by rw [hB]; exact HB0.out))
  have HO0 : Hid (OwnS ((w.alloc (.cells #[.int .i64 m.op, .int .i64 m.dst, .int .i64 m.a, .int .i64 m.b, .int .i64 m.n] 39)).alloc (.cells #[.bool false, .bool true, .bool true, .int .i64 2] 129)) B (.slice none 0 0) []) := Lib.hid (OwnS.nil _ _)
  have Hw := Lib.hid hB
  have HGB : Hid (5 < B) := Lib.hid (by rw [← hB]; exact hp.lt)
  clear hp ho
  go_enter Tryz.func80, Tryz.ntmps80
  go_upto_region 2 with fail
  clear hB
  generalize (w.alloc (.cells #[.int .i64 m.op, .int .i64 m.dst, .int .i64 m.a, .int .i64 m.b, .int .i64 m.n] 39)).alloc (.cells #[.bool false, .bool true, .bool true, .int .i64 2] 129) = W0 at *
  have m0 := HM0.out.cell 0
  have m1 := HM0.out.cell 1
  have m2 := HM0.out.cell 2
  have m3 := HM0.out.cell 3
  have m4 := HM0.out.cell 4
  have s0 := HS0.out.cell 0
  have s1 := HS0.out.cell 1
  have s2 := HS0.out.cell 2
  have s3 := HS0.out.cell 3
  go_upto_region 4 with fail
  clear m0 m1 m2 m3 m4 s0 s1 s2 s3
  have m0 := HM0.out.cell 0
  have m1 := HM0.out.cell 1
  have m2 := HM0.out.cell 2
  have m3 := HM0.out.cell 3
  have m4 := HM0.out.cell 4
  have s0 := HS0.out.cell 0
  have s1 := HS0.out.cell 1
  have s2 := HS0.out.cell 2
  have s3 := HS0.out.cell 3
  have HC := Lib.hid (reg_any m.a hm.a _ HP0.out)
  go_wp2_with fail
  refine HC.out.mono ?_
  rintro e V1 ⟨rfl, hb⟩
  have HBv := Lib.hid (HB0.out.trans (hb.mono (by have := HM0.out.lt; omega)))
  have HMv := Lib.hid (HM0.out.below hb HM0.out.lt)
  have HSv := Lib.hid (HS0.out.below hb HS0.out.lt)
  have HPv := Lib.hid (HP0.out.own hb)
  have HOv := Lib.hid (HO0.out.below hb)
  have hBz : B ≤ V1.heap.size := by have := HMv.out.lt; omega
  clear m0 m1 m2 m3 m4 s0 s1 s2 s3 hb HC HB0 HM0 HS0 HP0 HO0
  go_upto_region 8 with (at_builtin; refine app_one rfl _ _ 36 9 rfl (.string ⟨#[]⟩) 1 16 Tryz.underlying36 infoStr rfl (by decide) (by decide) B _ _ _ (by rfl) HOv.out _ [.string (mkS (114 :: Lib.itoa m.a))] (by rfl) rfl (fun x hx => by simp at hx; subst hx; rfl) rfl (by simp) hBz ?_; intro p1 W1 HA)
  have HB1 := Lib.hid (HBv.out.trans HA.out.below)
  have HM1 := Lib.hid (HA.out.blk HOv.out HMv.out (by decide))
  have HS1 := Lib.hid (HA.out.blk HOv.out HSv.out (by decide))
  have HP1 := Lib.hid (HPv.out.grown HA.out.2.2.1 HOv.out HGB.out)
  have HO1 : Hid (OwnS W1 B p1 [(114 :: Lib.itoa m.a)]) := Lib.hid (OwnS.snoc HA.out.own)
  clear hBz HBv HMv HSv HPv HOv HA
  have m0 := HM1.out.cell 0
  have m1 := HM1.out.cell 1
  have m2 := HM1.out.cell 2
  have m3 := HM1.out.cell 3
  have m4 := HM1.out.cell 4
  have s0 := HS1.out.cell 0
  have s1 := HS1.out.cell 1
  have s2 := HS1.out.cell 2
  have s3 := HS1.out.cell 3
  have HC := Lib.hid (reg_any m.b hm.b _ HP1.out)
  go_wp2_with fail
  refine HC.out.mono ?_
  rintro e V2 ⟨rfl, hb⟩
  have HBv := Lib.hid (HB1.out.trans (hb.mono (by have := HM1.out.lt; omega)))
  have HMv := Lib.hid (HM1.out.below hb HM1.out.lt)
  have HSv := Lib.hid (HS1.out.below hb HS1.out.lt)
  have HPv := Lib.hid (HP1.out.own hb)
  have HOv := Lib.hid (HO1.out.below hb)
  have hBz : B ≤ V2.heap.size := by have := HMv.out.lt; omega
  clear m0 m1 m2 m3 m4 s0 s1 s2 s3 hb HC HB1 HM1 HS1 HP1 HO1
  go_upto_region 10 with (at_builtin; refine app_one rfl _ _ 36 9 rfl (.string ⟨#[]⟩) 1 16 Tryz.underlying36 infoStr rfl (by decide) (by decide) B _ _ _ (by rfl) HOv.out _ [.string (mkS (114 :: Lib.itoa m.b))] (by rfl) rfl (fun x hx => by simp at hx; subst hx; rfl) rfl (by simp) hBz ?_; intro p2 W2 HA)
  have HB2 := Lib.hid (HBv.out.trans HA.out.below)
  have HM2 := Lib.hid (HA.out.blk HOv.out HMv.out (by decide))
  have HS2 := Lib.hid (HA.out.blk HOv.out HSv.out (by decide))
  have HP2 := Lib.hid (HPv.out.grown HA.out.2.2.1 HOv.out HGB.out)
  have HO2 : Hid (OwnS W2 B p2 [(114 :: Lib.itoa m.a), (114 :: Lib.itoa m.b)]) := Lib.hid (OwnS.snoc HA.out.own)
  clear hBz HBv HMv HSv HPv HOv HA
  have m0 := HM2.out.cell 0
  have m1 := HM2.out.cell 1
  have m2 := HM2.out.cell 2
  have m3 := HM2.out.cell 3
  have m4 := HM2.out.cell 4
  have s0 := HS2.out.cell 0
  have s1 := HS2.out.cell 1
  have s2 := HS2.out.cell 2
  have s3 := HS2.out.cell 3
  have HC := Lib.hid (label_any m.n hm.n _ HP2.out)
  go_wp2_with fail
  refine HC.out.mono ?_
  rintro e V3 ⟨rfl, hb⟩
  have HBv := Lib.hid (HB2.out.trans (hb.mono (by have := HM2.out.lt; omega)))
  have HMv := Lib.hid (HM2.out.below hb HM2.out.lt)
  have HSv := Lib.hid (HS2.out.below hb HS2.out.lt)
  have HPv := Lib.hid (HP2.out.own hb)
  have HOv := Lib.hid (HO2.out.below hb)
  have hBz : B ≤ V3.heap.size := by have := HMv.out.lt; omega
  clear m0 m1 m2 m3 m4 s0 s1 s2 s3 hb HC HB2 HM2 HS2 HP2 HO2
  go_upto_region 18 with (at_builtin; refine app_one rfl _ _ 36 9 rfl (.string ⟨#[]⟩) 1 16 Tryz.underlying36 infoStr rfl (by decide) (by decide) B _ _ _ (by rfl) HOv.out _ [.string (mkS (76 :: Lib.itoa m.n))] (by rfl) rfl (fun x hx => by simp at hx; subst hx; rfl) rfl (by simp) hBz ?_; intro p3 W3 HA)
  have HB3 := Lib.hid (HBv.out.trans HA.out.below)
  have HM3 := Lib.hid (HA.out.blk HOv.out HMv.out (by decide))
  have HS3 := Lib.hid (HA.out.blk HOv.out HSv.out (by decide))
  have HP3 := Lib.hid (HPv.out.grown HA.out.2.2.1 HOv.out HGB.out)
  have HO3 : Hid (OwnS W3 B p3 [(114 :: Lib.itoa m.a), (114 :: Lib.itoa m.b), (76 :: Lib.itoa m.n)]) := Lib.hid (OwnS.snoc HA.out.own)
  clear hBz HBv HMv HSv HPv HOv HA
  go_wp2_with fail
  go_ret
  exact ⟨_, rfl, by rw [Hw.out, HE.out]; exact HO3.out, by rw [Hw.out]; exact HB3.out⟩
set_option maxRecDepth 100000 in
set_option maxHeartbeats 8000000 in
theorem partsCallR (m : Mac) (_hm : m.ok) (rt : Int → List UInt8) (fv : Value) (w : World) (hp : Pow w) (hop : ¬ m.op = 34) (ho : ordL m.op = [114]) (hF : Namer fv m.n (rt m.n) w) :
    Calls Tryz.prog 80 #[.agg #[.int .i64 m.op, .int .i64 m.dst, .int .i64 m.a, .int .i64 m.b, .int .i64 m.n], .agg #[.bool false, .bool false, .bool false, .int .i64 4], fv] w fun e w' => ∃ v, e = .returned v ∧ OwnS w' w.heap.size v (partsL rt m) ∧ Below w.heap.size w w' := by
  have HE : Hid (partsL rt m = [(rt m.n)]) := Lib.hid (by unfold partsL; rw [ho]; rfl)
  obtain ⟨F, cap, rfl, hc, hF⟩ := hF
  have Hc := Lib.hid hc
  have HF := Lib.hid hF
  obtain ⟨B, hB⟩ : ∃ B, w.heap.size = B := ⟨_, rfl⟩
  have HM0 : Hid (Blk ((w.alloc (.cells #[.int .i64 m.op, .int .i64 m.dst, .int .i64 m.a, .int .i64 m.b, .int .i64 m.n] 39)).alloc (.cells #[.bool false, .bool false, .bool false, .int .i64 4] 129)) B 39 #[.int .i64 m.op, .int .i64 m.dst, .int .i64 m.a, .int .i64 m.b, .int .i64 m.n]) := Lib.hid (by rw [← hB]; exact (Blk.new w _ _).alloc _)
  have HS0 : Hid (Blk ((w.alloc (.cells #[.int .i64 m.op, .int .i64 m.dst, .int .i64 m.a, .int .i64 m.b, .int .i64 m.n] 39)).alloc (.cells #[.bool false, .bool false, .bool false, .int .i64 4] 129)) (B + 1) 129 #[.bool false, .bool false, .bool false, .int .i64 4]) := Lib.hid (by simpa [← hB] using Blk.new (w.alloc (.cells #[.int .i64 m.op, .int .i64 m.dst, .int .i64 m.a, .int .i64 m.b, .int .i64 m.n] 39)) 129 #[.bool false, .bool false, .bool false, .int .i64 4])
  have HB0 : Hid (Below B w ((w.alloc (.cells #[.int .i64 m.op, .int .i64 m.dst, .int .i64 m.a, .int .i64 m.b, .int .i64 m.n] 39)).alloc (.cells #[.bool false, .bool false, .bool false, .int .i64 4] 129))) := Lib.hid (by rw [← hB]; exact ((Below.refl _ _).alloc (Nat.le_refl _) _).alloc (by simp) _)
  have HP0 : Hid (Pow ((w.alloc (.cells #[.int .i64 m.op, .int .i64 m.dst, .int .i64 m.a, .int .i64 m.b, .int .i64 m.n] 39)).alloc (.cells #[.bool false, .bool false, .bool false, .int .i64 4] 129))) := Lib.hid (hp.own (by rw [hB]; exact HB0.out))
  have HO0 : Hid (OwnS ((w.alloc (.cells #[.int .i64 m.op, .int .i64 m.dst, .int .i64 m.a, .int .i64 m.b, .int .i64 m.n] 39)).alloc (.cells #[.bool false, .bool false, .bool false, .int .i64 4] 129)) B (.slice none 0 0) []) := Lib.hid (OwnS.nil _ _)
  have Hw := Lib.hid hB
  have HGB : Hid (5 < B) := Lib.hid (by rw [← hB]; exact hp.lt)
  clear hp ho hc hF
  go_enter Tryz.func80, Tryz.ntmps80
  go_upto_region 2 with fail
  clear hB
  generalize (w.alloc (.cells #[.int .i64 m.op, .int .i64 m.dst, .int .i64 m.a, .int .i64 m.b, .int .i64 m.n] 39)).alloc (.cells #[.bool false, .bool false, .bool false, .int .i64 4] 129) = W0 at *
  have m0 := HM0.out.cell 0
  have m1 := HM0.out.cell 1
  have m2 := HM0.out.cell 2
  have m3 := HM0.out.cell 3
  have m4 := HM0.out.cell 4
  have s0 := HS0.out.cell 0
  have s1 := HS0.out.cell 1
  have s2 := HS0.out.cell 2
  have s3 := HS0.out.cell 3
  go_upto_region 4 with fail
  clear m0 m1 m2 m3 m4 s0 s1 s2 s3
  have m0 := HM0.out.cell 0
  have m1 := HM0.out.cell 1
  have m2 := HM0.out.cell 2
  have m3 := HM0.out.cell 3
  have m4 := HM0.out.cell 4
  have s0 := HS0.out.cell 0
  have s1 := HS0.out.cell 1
  have s2 := HS0.out.cell 2
  have s3 := HS0.out.cell 3
  go_upto_region 8 with fail
  clear m0 m1 m2 m3 m4 s0 s1 s2 s3
  have m0 := HM0.out.cell 0
  have m1 := HM0.out.cell 1
  have m2 := HM0.out.cell 2
  have m3 := HM0.out.cell 3
  have m4 := HM0.out.cell 4
  have s0 := HS0.out.cell 0
  have s1 := HS0.out.cell 1
  have s2 := HS0.out.cell 2
  have s3 := HS0.out.cell 3
  go_upto_region 10 with fail
  clear m0 m1 m2 m3 m4 s0 s1 s2 s3
  have m0 := HM0.out.cell 0
  have m1 := HM0.out.cell 1
  have m2 := HM0.out.cell 2
  have m3 := HM0.out.cell 3
  have m4 := HM0.out.cell 4
  have s0 := HS0.out.cell 0
  have s1 := HS0.out.cell 1
  have s2 := HS0.out.cell 2
  have s3 := HS0.out.cell 3
  have hc := Hc.out
  have HC := Lib.hid (HF.out W0 (by rw [Hw.out]; exact HB0.out))
  go_wp2_with fail
  refine HC.out.mono ?_
  rintro e V1 ⟨rfl, hb⟩
  have HBv := Lib.hid (HB0.out.trans (hb.mono (by have := HM0.out.lt; omega)))
  have HMv := Lib.hid (HM0.out.below hb HM0.out.lt)
  have HSv := Lib.hid (HS0.out.below hb HS0.out.lt)
  have HPv := Lib.hid (HP0.out.own hb)
  have HOv := Lib.hid (HO0.out.below hb)
  have hBz : B ≤ V1.heap.size := by have := HMv.out.lt; omega
  clear m0 m1 m2 m3 m4 s0 s1 s2 s3 hb HC HB0 HM0 HS0 HP0 HO0 hc Hc HF
  go_upto_region 18 with (at_builtin; refine app_one rfl _ _ 36 9 rfl (.string ⟨#[]⟩) 1 16 Tryz.underlying36 infoStr rfl (by decide) (by decide) B _ _ _ (by rfl) HOv.out _ [.string (mkS (rt m.n))] (by rfl) rfl (fun x hx => by simp at hx; subst hx; rfl) rfl (by simp) hBz ?_; intro p1 W1 HA)
  have HB1 := Lib.hid (HBv.out.trans HA.out.below)
  have HM1 := Lib.hid (HA.out.blk HOv.out HMv.out (by decide))
  have HS1 := Lib.hid (HA.out.blk HOv.out HSv.out (by decide))
  have HP1 := Lib.hid (HPv.out.grown HA.out.2.2.1 HOv.out HGB.out)
  have HO1 : Hid (OwnS W1 B p1 [(rt m.n)]) := Lib.hid (OwnS.snoc HA.out.own)
  clear hBz HBv HMv HSv HPv HOv HA
  go_wp2_with fail
  go_ret
  exact ⟨_, rfl, by rw [Hw.out, HE.out]; exact HO1.out, by rw [Hw.out]; exact HB1.out⟩
set_option maxRecDepth 100000 in
set_option maxHeartbeats 8000000 in
theorem partsRet (m : Mac) (_hm : m.ok) (rt : Int → List UInt8) (fv : Value) (w : World) (hp : Pow w) (hop : ¬ m.op = 34) (ho : ordL m.op = []) :
    Calls Tryz.prog 80 #[.agg #[.int .i64 m.op, .int .i64 m.dst, .int .i64 m.a, .int .i64 m.b, .int .i64 m.n], .agg #[.bool false, .bool false, .bool false, .int .i64 0], fv] w fun e w' => ∃ v, e = .returned v ∧ OwnS w' w.heap.size v (partsL rt m) ∧ Below w.heap.size w w' := by
  have HE : Hid (partsL rt m = []) := Lib.hid (by unfold partsL; rw [ho]; rfl)
  obtain ⟨B, hB⟩ : ∃ B, w.heap.size = B := ⟨_, rfl⟩
  have HM0 : Hid (Blk ((w.alloc (.cells #[.int .i64 m.op, .int .i64 m.dst, .int .i64 m.a, .int .i64 m.b, .int .i64 m.n] 39)).alloc (.cells #[.bool false, .bool false, .bool false, .int .i64 0] 129)) B 39 #[.int .i64 m.op, .int .i64 m.dst, .int .i64 m.a, .int .i64 m.b, .int .i64 m.n]) := Lib.hid (by rw [← hB]; exact (Blk.new w _ _).alloc _)
  have HS0 : Hid (Blk ((w.alloc (.cells #[.int .i64 m.op, .int .i64 m.dst, .int .i64 m.a, .int .i64 m.b, .int .i64 m.n] 39)).alloc (.cells #[.bool false, .bool false, .bool false, .int .i64 0] 129)) (B + 1) 129 #[.bool false, .bool false, .bool false, .int .i64 0]) := Lib.hid (by simpa [← hB] using Blk.new (w.alloc (.cells #[.int .i64 m.op, .int .i64 m.dst, .int .i64 m.a, .int .i64 m.b, .int .i64 m.n] 39)) 129 #[.bool false, .bool false, .bool false, .int .i64 0])
  have HB0 : Hid (Below B w ((w.alloc (.cells #[.int .i64 m.op, .int .i64 m.dst, .int .i64 m.a, .int .i64 m.b, .int .i64 m.n] 39)).alloc (.cells #[.bool false, .bool false, .bool false, .int .i64 0] 129))) := Lib.hid (by rw [← hB]; exact ((Below.refl _ _).alloc (Nat.le_refl _) _).alloc (by simp) _)
  have HP0 : Hid (Pow ((w.alloc (.cells #[.int .i64 m.op, .int .i64 m.dst, .int .i64 m.a, .int .i64 m.b, .int .i64 m.n] 39)).alloc (.cells #[.bool false, .bool false, .bool false, .int .i64 0] 129))) := Lib.hid (hp.own (by rw [hB]; exact HB0.out))
  have HO0 : Hid (OwnS ((w.alloc (.cells #[.int .i64 m.op, .int .i64 m.dst, .int .i64 m.a, .int .i64 m.b, .int .i64 m.n] 39)).alloc (.cells #[.bool false, .bool false, .bool false, .int .i64 0] 129)) B (.slice none 0 0) []) := Lib.hid (OwnS.nil _ _)
  have Hw := Lib.hid hB
  have HGB : Hid (5 < B) := Lib.hid (by rw [← hB]; exact hp.lt)
  clear hp ho
  go_enter Tryz.func80, Tryz.ntmps80
  go_upto_region 2 with fail
  clear hB
  generalize (w.alloc (.cells #[.int .i64 m.op, .int .i64 m.dst, .int .i64 m.a, .int .i64 m.b, .int .i64 m.n] 39)).alloc (.cells #[.bool false, .bool false, .bool false, .int .i64 0] 129) = W0 at *
  have m0 := HM0.out.cell 0
  have m1 := HM0.out.cell 1
  have m2 := HM0.out.cell 2
  have m3 := HM0.out.cell 3
  have m4 := HM0.out.cell 4
  have s0 := HS0.out.cell 0
  have s1 := HS0.out.cell 1
  have s2 := HS0.out.cell 2
  have s3 := HS0.out.cell 3
  go_upto_region 4 with fail
  clear m0 m1 m2 m3 m4 s0 s1 s2 s3
  have m0 := HM0.out.cell 0
  have m1 := HM0.out.cell 1
  have m2 := HM0.out.cell 2
  have m3 := HM0.out.cell 3
  have m4 := HM0.out.cell 4
  have s0 := HS0.out.cell 0
  have s1 := HS0.out.cell 1
  have s2 := HS0.out.cell 2
  have s3 := HS0.out.cell 3
  go_upto_region 8 with fail
  clear m0 m1 m2 m3 m4 s0 s1 s2 s3
  have m0 := HM0.out.cell 0
  have m1 := HM0.out.cell 1
  have m2 := HM0.out.cell 2
  have m3 := HM0.out.cell 3
  have m4 := HM0.out.cell 4
  have s0 := HS0.out.cell 0
  have s1 := HS0.out.cell 1
  have s2 := HS0.out.cell 2
  have s3 := HS0.out.cell 3
  go_upto_region 10 with fail
  clear m0 m1 m2 m3 m4 s0 s1 s2 s3
  have m0 := HM0.out.cell 0
  have m1 := HM0.out.cell 1
  have m2 := HM0.out.cell 2
  have m3 := HM0.out.cell 3
  have m4 := HM0.out.cell 4
  have s0 := HS0.out.cell 0
  have s1 := HS0.out.cell 1
  have s2 := HS0.out.cell 2
  have s3 := HS0.out.cell 3
  go_upto_region 18 with fail
  clear m0 m1 m2 m3 m4 s0 s1 s2 s3
  go_wp2_with fail
  go_ret
  exact ⟨_, rfl, by rw [Hw.out, HE.out]; exact HO0.out, by rw [Hw.out]; exact HB0.out⟩
set_option maxRecDepth 100000 in
set_option maxHeartbeats 8000000 in
theorem partsReadD (m : Mac) (hm : m.ok) (rt : Int → List UInt8) (fv : Value) (w : World) (hp : Pow w) (hop : ¬ m.op = 34) (ho : ordL m.op = [100]) :
    Calls Tryz.prog 80 #[.agg #[.int .i64 m.op, .int .i64 m.dst, .int .i64 m.a, .int .i64 m.b, .int .i64 m.n], .agg #[.bool true, .bool false, .bool false, .int .i64 0], fv] w fun e w' => ∃ v, e = .returned v ∧ OwnS w' w.heap.size v (partsL rt m) ∧ Below w.heap.size w w' := by
  have HE : Hid (partsL rt m = [(114 :: Lib.itoa m.dst)]) := Lib.hid (by unfold partsL; rw [ho]; rfl)
  obtain ⟨B, hB⟩ : ∃ B, w.heap.size = B := ⟨_, rfl⟩
  have HM0 : Hid (Blk ((w.alloc (.cells #[.int .i64 m.op, .int .i64 m.dst, .int .i64 m.a, .int .i64 m.b, .int .i64 m.n] 39)).alloc (.cells #[.bool true, .bool false, .bool false, .int .i64 0] 129)) B 39 #[.int .i64 m.op, .int .i64 m.dst, .int .i64 m.a, .int .i64 m.b, .int .i64 m.n]) := Lib.hid (by rw [← hB]; exact (Blk.new w _ _).alloc _)
  have HS0 : Hid (Blk ((w.alloc (.cells #[.int .i64 m.op, .int .i64 m.dst, .int .i64 m.a, .int .i64 m.b, .int .i64 m.n] 39)).alloc (.cells #[.bool true, .bool false, .bool false, .int .i64 0] 129)) (B + 1) 129 #[.bool true, .bool false, .bool false, .int .i64 0]) := Lib.hid (by simpa [← hB] using Blk.new (w.alloc (.cells #[.int .i64 m.op, .int .i64 m.dst, .int .i64 m.a, .int .i64 m.b, .int .i64 m.n] 39)) 129 #[.bool true, .bool false, .bool false, .int .i64 0])
  have HB0 : Hid (Below B w ((w.alloc (.cells #[.int .i64 m.op, .int .i64 m.dst, .int .i64 m.a, .int .i64 m.b, .int .i64 m.n] 39)).alloc (.cells #[.bool true, .bool false, .bool false, .int .i64 0] 129))) := Lib.hid (by rw [← hB]; exact ((Below.refl _ _).alloc (Nat.le_refl _) _).alloc (by simp) _)
  have HP0 : Hid (Pow ((w.alloc (.cells #[.int .i64 m.op, .int .i64 m.dst, .int .i64 m.a, .int .i64 m.b, .int .i64 m.n] 39)).alloc (.cells #[.bool true, .bool false, .bool false, .int .i64 0] 129))) := Lib.hid (hp.own (by rw [hB]; exact HB0.out))
  have HO0 : Hid (OwnS ((w.alloc (.cells #[.int .i64 m.op, .int .i64 m.dst, .int .i64 m.a, .int .i64 m.b, .int .i64 m.n] 39)).alloc (.cells #[.bool true, .bool false, .bool false, .int .i64 0] 129)) B (.slice none 0 0) []) := Lib.hid (OwnS.nil _ _)
  have Hw := Lib.hid hB
  have HGB : Hid (5 < B) := Lib.hid (by rw [← hB]; exact hp.lt)
  clear hp ho
  go_enter Tryz.func80, Tryz.ntmps80
  go_upto_region 2 with fail
  clear hB
  generalize (w.alloc (.cells #[.int .i64 m.op, .int .i64 m.dst, .int .i64 m.a, .int .i64 m.b, .int .i64 m.n] 39)).alloc (.cells #[.bool true, .bool false, .bool false, .int .i64 0] 129) = W0 at *
  have m0 := HM0.out.cell 0
  have m1 := HM0.out.cell 1
  have m2 := HM0.out.cell 2
  have m3 := HM0.out.cell 3
  have m4 := HM0.out.cell 4
  have s0 := HS0.out.cell 0
  have s1 := HS0.out.cell 1
  have s2 := HS0.out.cell 2
  have s3 := HS0.out.cell 3
  have HC := Lib.hid (reg_any m.dst hm.dst _ HP0.out)
  go_wp2_with fail
  refine HC.out.mono ?_
  rintro e V1 ⟨rfl, hb⟩
  have HBv := Lib.hid (HB0.out.trans (hb.mono (by have := HM0.out.lt; omega)))
  have HMv := Lib.hid (HM0.out.below hb HM0.out.lt)
  have HSv := Lib.hid (HS0.out.below hb HS0.out.lt)
  have HPv := Lib.hid (HP0.out.own hb)
  have HOv := Lib.hid (HO0.out.below hb)
  have hBz : B ≤ V1.heap.size := by have := HMv.out.lt; omega
  clear m0 m1 m2 m3 m4 s0 s1 s2 s3 hb HC HB0 HM0 HS0 HP0 HO0
  go_upto_region 4 with (at_builtin; refine app_one rfl _ _ 36 9 rfl (.string ⟨#[]⟩) 1 16 Tryz.underlying36 infoStr rfl (by decide) (by decide) B _ _ _ (by rfl) HOv.out _ [.string (mkS (114 :: Lib.itoa m.dst))] (by rfl) rfl (fun x hx => by simp at hx; subst hx; rfl) rfl (by simp) hBz ?_; intro p1 W1 HA)
  have HB1 := Lib.hid (HBv.out.trans HA.out.below)
  have HM1 := Lib.hid (HA.out.blk HOv.out HMv.out (by decide))
  have HS1 := Lib.hid (HA.out.blk HOv.out HSv.out (by decide))
  have HP1 := Lib.hid (HPv.out.grown HA.out.2.2.1 HOv.out HGB.out)
  have HO1 : Hid (OwnS W1 B p1 [(114 :: Lib.itoa m.dst)]) := Lib.hid (OwnS.snoc HA.out.own)
  clear hBz HBv HMv HSv HPv HOv HA
  have m0 := HM1.out.cell 0
  have m1 := HM1.out.cell 1
  have m2 := HM1.out.cell 2
  have m3 := HM1.out.cell 3
  have m4 := HM1.out.cell 4
  have s0 := HS1.out.cell 0
  have s1 := HS1.out.cell 1
  have s2 := HS1.out.cell 2
  have s3 := HS1.out.cell 3
  go_upto_region 8 with fail
  clear m0 m1 m2 m3 m4 s0 s1 s2 s3
  have m0 := HM1.out.cell 0
  have m1 := HM1.out.cell 1
  have m2 := HM1.out.cell 2
  have m3 := HM1.out.cell 3
  have m4 := HM1.out.cell 4
  have s0 := HS1.out.cell 0
  have s1 := HS1.out.cell 1
  have s2 := HS1.out.cell 2
  have s3 := HS1.out.cell 3
  go_upto_region 10 with fail
  clear m0 m1 m2 m3 m4 s0 s1 s2 s3
  have m0 := HM1.out.cell 0
  have m1 := HM1.out.cell 1
  have m2 := HM1.out.cell 2
  have m3 := HM1.out.cell 3
  have m4 := HM1.out.cell 4
  have s0 := HS1.out.cell 0
  have s1 := HS1.out.cell 1
  have s2 := HS1.out.cell 2
  have s3 := HS1.out.cell 3
  go_upto_region 18 with fail
  clear m0 m1 m2 m3 m4 s0 s1 s2 s3
  go_wp2_with fail
  go_ret
  exact ⟨_, rfl, by rw [Hw.out, HE.out]; exact HO1.out, by rw [Hw.out]; exact HB1.out⟩
set_option maxRecDepth 100000 in
set_option maxHeartbeats 8000000 in
theorem partsPrintA (m : Mac) (hm : m.ok) (rt : Int → List UInt8) (fv : Value) (w : World) (hp : Pow w) (hop : ¬ m.op = 34) (ho : ordL m.op = [97]) :
    Calls Tryz.prog 80 #[.agg #[.int .i64 m.op, .int .i64 m.dst, .int .i64 m.a, .int .i64 m.b, .int .i64 m.n], .agg #[.bool false, .bool true, .bool false, .int .i64 0], fv] w fun e w' => ∃ v, e = .returned v ∧ OwnS w' w.heap.size v (partsL rt m) ∧ Below w.heap.size w w' := by
  have HE : Hid (partsL rt m = [(114 :: Lib.itoa m.a)]) := Lib.hid (by unfold partsL; rw [ho]; rfl)
  obtain ⟨B, hB⟩ : ∃ B, w.heap.size = B := ⟨_, rfl⟩
  have HM0 : Hid (Blk ((w.alloc (.cells #[.int .i64 m.op, .int .i64 m.dst, .int .i64 m.a, .int .i64 m.b, .int .i64 m.n] 39)).alloc (.cells #[.bool false, .bool true, .bool false, .int .i64 0] 129)) B 39 #[.int .i64 m.op, .int .i64 m.dst, .int .i64 m.a, .int .i64 m.b, .int .i64 m.n]) := Lib.hid (by rw [← hB]; exact (Blk.new w _ _).alloc _)
  have HS0 : Hid (Blk ((w.alloc (.cells #[.int .i64 m.op, .int .i64 m.dst, .int .i64 m.a, .int .i64 m.b, .int .i64 m.n] 39)).alloc (.cells #[.bool false, .bool true, .bool false, .int .i64 0] 129)) (B + 1) 129 #[.bool false, .bool true, .bool false, .int .i64 0]) := Lib.hid (by simpa [← hB] using Blk.new (w.alloc (.cells #[.int .i64 m.op, .int .i64 m.dst, .int .i64 m.a, .int .i64 m.b, .int .i64 m.n] 39)) 129 #[.bool false, .bool true, .bool false, .int .i64 0])
  have HB0 : Hid (Below B w ((w.alloc (.cells #[.int .i64 m.op, .int .i64 m.dst, .int .i64 m.a, .int .i64 m.b, .int .i64 m.n] 39)).alloc (.cells #[.bool false, .bool true, .bool false, .int .i64 0] 129))) := Lib.hid (by rw [← hB]; exact ((Below.refl _ _).alloc (Nat.le_refl _) _).alloc (by simp) _)
  have HP0 : Hid (Pow ((w.alloc (.cells #[.int .i64 m.op, .int .i64 m.dst, .int .i64 m.a, .int .i64 m.b, .int .i64 m.n] 39)).alloc (.cells #[.bool false, .bool true, .bool false, .int .i64 0] 129))) := Lib.hid (hp.own (by rw [hB]; exact HB0.out))
  have HO0 : Hid (OwnS ((w.alloc (.cells #[.int .i64 m.op, .int .i64 m.dst, .int .i64 m.a, .int .i64 m.b, .int .i64 m.n] 39)).alloc (.cells #[.bool false, .bool true, .bool false, .int .i64 0] 129)) B (.slice none 0 0) []) := Lib.hid (OwnS.nil _ _)
  have Hw := Lib.hid hB
  have HGB : Hid (5 < B) := Lib.hid (by rw [← hB]; exact hp.lt)
  clear hp ho
  go_enter Tryz.func80, Tryz.ntmps80
  go_upto_region 2 with fail
  clear hB
  generalize (w.alloc (.cells #[.int .i64 m.op, .int .i64 m.dst, .int .i64 m.a, .int .i64 m.b, .int .i64 m.n] 39)).alloc (.cells #[.bool false, .bool true, .bool false, .int .i64 0] 129) = W0 at *
  have m0 := HM0.out.cell 0
  have m1 := HM0.out.cell 1
  have m2 := HM0.out.cell 2
  have m3 := HM0.out.cell 3
  have m4 := HM0.out.cell 4
  have s0 := HS0.out.cell 0
  have s1 := HS0.out.cell 1
  have s2 := HS0.out.cell 2
  have s3 := HS0.out.cell 3
  go_upto_region 4 with fail
  clear m0 m1 m2 m3 m4 s0 s1 s2 s3
  have m0 := HM0.out.cell 0
  have m1 := HM0.out.cell 1
  have m2 := HM0.out.cell 2
  have m3 := HM0.out.cell 3
  have m4 := HM0.out.cell 4
  have s0 := HS0.out.cell 0
  have s1 := HS0.out.cell 1
  have s2 := HS0.out.cell 2
  have s3 := HS0.out.cell 3
  have HC := Lib.hid (reg_any m.a hm.a _ HP0.out)
  go_wp2_with fail
  refine HC.out.mono ?_
  rintro e V1 ⟨rfl, hb⟩
  have HBv := Lib.hid (HB0.out.trans (hb.mono (by have := HM0.out.lt; omega)))
  have HMv := Lib.hid (HM0.out.below hb HM0.out.lt)
  have HSv := Lib.hid (HS0.out.below hb HS0.out.lt)
  have HPv := Lib.hid (HP0.out.own hb)
  have HOv := Lib.hid (HO0.out.below hb)
  have hBz : B ≤ V1.heap.size := by have := HMv.out.lt; omega
  clear m0 m1 m2 m3 m4 s0 s1 s2 s3 hb HC HB0 HM0 HS0 HP0 HO0
  go_upto_region 8 with (at_builtin; refine app_one rfl _ _ 36 9 rfl (.string ⟨#[]⟩) 1 16 Tryz.underlying36 infoStr rfl (by decide) (by decide) B _ _ _ (by rfl) HOv.out _ [.string (mkS (114 :: Lib.itoa m.a))] (by rfl) rfl (fun x hx => by simp at hx; subst hx; rfl) rfl (by simp) hBz ?_; intro p1 W1 HA)
  have HB1 := Lib.hid (HBv.out.trans HA.out.below)
  have HM1 := Lib.hid (HA.out.blk HOv.out HMv.out (by decide))
  have HS1 := Lib.hid (HA.out.blk HOv.out HSv.out (by decide))
  have HP1 := Lib.hid (HPv.out.grown HA.out.2.2.1 HOv.out HGB.out)
  have HO1 : Hid (OwnS W1 B p1 [(114 :: Lib.itoa m.a)]) := Lib.hid (OwnS.snoc HA.out.own)
  clear hBz HBv HMv HSv HPv HOv HA
  have m0 := HM1.out.cell 0
  have m1 := HM1.out.cell 1
  have m2 := HM1.out.cell 2
  have m3 := HM1.out.cell 3
  have m4 := HM1.out.cell 4
  have s0 := HS1.out.cell 0
  have s1 := HS1.out.cell 1
  have s2 := HS1.out.cell 2
  have s3 := HS1.out.cell 3
  go_upto_region 10 with fail
  clear m0 m1 m2 m3 m4 s0 s1 s2 s3
  have m0 := HM1.out.cell 0
  have m1 := HM1.out.cell 1
  have m2 := HM1.out.cell 2
  have m3 := HM1.out.cell 3
  have m4 := HM1.out.cell 4
  have s0 := HS1.out.cell 0
  have s1 := HS1.out.cell 1
  have s2 := HS1.out.cell 2
  have s3 := HS1.out.cell 3
  go_upto_region 18 with fail
  clear m0 m1 m2 m3 m4 s0 s1 s2 s3
  go_wp2_with fail
  go_ret
  exact ⟨_, rfl, by rw [Hw.out, HE.out]; exact HO1.out, by rw [Hw.out]; exact HB1.out⟩
end Go.Proofs.YtdldochhondifaaGreatDoor
