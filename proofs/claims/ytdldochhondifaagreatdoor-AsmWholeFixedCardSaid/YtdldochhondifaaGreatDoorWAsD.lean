/-
  Texts of the claim AsmWholeFixed (AsD): what each proves stands at its theorems.
  Conditions: as the theorems say.
-/
import Derived.Deep.DeepCutAuto
import Derived.Deep.OwnRows
import Derived.Test.YtdldochhondifaaGreatDoorWAsB
namespace Go.Proofs.YtdldochhondifaaGreatDoor
open Go.RowKit
attribute [local go_sem] Oper.semAt_some

theorem below_drew0 {B : Nat} {a w : World} (h : Below B a w) : Below B a w.drew := ⟨h.os, h.tape, h.output, h.size, h.block⟩
/-- A row laid anew is the call's own. -/
theorem own_new (w : World) (base : Nat) (e : TypeId) (xs : List Value) (hb : base ≤ w.heap.size) (hm : xs.length ≤ maxLen) : (w.alloc (.cells xs.toArray e)).ownsRow base e 1 (.slice (some ⟨w.heap.size, 0, none⟩) xs.length xs.length) xs.length xs :=
  ⟨by simp, .inr ⟨w.heap.size, xs.length, xs.toArray, rfl, hb, heap_alloc_new w _, Nat.le_refl _, hm, by simp, by simp⟩⟩
/-- The region of the three parts: what its operations yield. -/
def StoRun (pv : Nat → Option Value) (w0 : World) (ss : List (List UInt8)) (σ : Nat → Option Value) (w : World) : Prop :=
  KnownRun pv w0 σ w ∧ (∀ u, σ 9 = some u → OwnS w w0.heap.size u ss) ∧ (∀ u, σ 10 = some u → σ 9 = some u)
section
variable {pv : Nat → Option Value} {w0 : World} {ss : List (List UInt8)} {σ : Nat → Option Value} {w w' : World}
theorem StoRun.start (h : Below w0.heap.size w0 w) : StoRun pv w0 ss (fun _ => none) w := ⟨KnownRun.start h, by simp, by simp⟩
theorem StoRun.low (h : StoRun pv w0 ss σ w) : Below w0.heap.size w0 w := h.1.1
theorem StoRun.val (h : StoRun pv w0 ss σ w) {k : Nat} {u v : Value} (hu : σ k = some u) (hp : pv k = some v) : u = v := h.1.val hu hp
theorem StoRun.say (h : StoRun pv w0 ss σ w) {k : Nat} {v : Value} (hk : pv k = some v) (hb : Below w.heap.size w w') (hn : k ≠ 9 ∧ k ≠ 10) : StoRun pv w0 ss (upd σ k v) w' := by
  refine ⟨h.1.say hk hb, ?_, ?_⟩
  · rw [upd_ne hn.1.symm]
    exact fun u hu => (h.2.1 u hu).below hb
  · rw [upd_ne hn.2.symm, upd_ne hn.1.symm]
    exact h.2.2
theorem StoRun.make {x y z : List UInt8} (h : StoRun pv w0 [x, y, z] σ w) (hp : pv 9 = none) (h10 : σ 10 = none) :
    StoRun pv w0 [x, y, z] (upd σ 9 (.slice (some ⟨w.heap.size, 0, none⟩) 3 3)) (w.alloc (.cells #[.string (mkS x), .string (mkS y), .string (mkS z)] 9)) := by
  refine ⟨h.1.free hp _ ((Below.refl _ _).alloc (Nat.le_refl _) _), ?_, ?_⟩
  · rw [upd_same]
    intro u hu
    cases hu
    exact own_new w w0.heap.size 9 [.string (mkS x), .string (mkS y), .string (mkS z)] h.low.size (by unfold maxLen; simp)
  · rw [upd_ne (by decide), h10]
    intro u hu
    cases hu
theorem StoRun.out (h : StoRun pv w0 ss σ w) (hp : pv 10 = none) {u : Value} (hu : σ 9 = some u) : StoRun pv w0 ss (upd σ 10 u) w := by
  refine ⟨h.1.free hp _ (Below.refl _ _), ?_, ?_⟩
  · rw [upd_ne (by decide)]
    exact h.2.1
  · rw [upd_same, upd_ne (by decide)]
    intro x hx
    cases hx
    exact hu
end
set_option maxRecDepth 100000 in
set_option maxHeartbeats 8000000 in
theorem partsStore (m : Mac) (hm : m.ok) (rt : Int → List UInt8) (fv : Value) (w : World) (hp : Pow w) (hop : m.op = 34) (ho : ordL m.op = [98, 97, 110]) :
    Calls Tryz.prog 80 #[.agg #[.int .i64 m.op, .int .i64 m.dst, .int .i64 m.a, .int .i64 m.b, .int .i64 m.n], .agg #[.bool false, .bool true, .bool true, .int .i64 1], fv] w fun e w' => ∃ v, e = .returned v ∧ OwnS w' w.heap.size v (partsL rt m) ∧ Below w.heap.size w w' := by
  have HE : Hid (partsL rt m = [114 :: Lib.itoa m.b, 114 :: Lib.itoa m.a, Lib.itoa m.n]) := Lib.hid (by unfold partsL; rw [ho]; rfl)
  obtain ⟨B, hB⟩ : ∃ B, w.heap.size = B := ⟨_, rfl⟩
  have HM0 : Hid (Blk ((w.alloc (.cells #[.int .i64 m.op, .int .i64 m.dst, .int .i64 m.a, .int .i64 m.b, .int .i64 m.n] 39)).alloc (.cells #[.bool false, .bool true, .bool true, .int .i64 1] 129)) B 39 #[.int .i64 m.op, .int .i64 m.dst, .int .i64 m.a, .int .i64 m.b, .int .i64 m.n]) := Lib.hid (by rw [← hB]; exact (Blk.new w _ _).alloc _)
  have HS0 : Hid (Blk ((w.alloc (.cells #[.int .i64 m.op, .int .i64 m.dst, .int .i64 m.a, .int .i64 m.b, .int .i64 m.n] 39)).alloc (.cells #[.bool false, .bool true, .bool true, .int .i64 1] 129)) (B + 1) 129 #[.bool false, .bool true, .bool true, .int .i64 1]) := Lib.hid (by simpa [← hB] using Blk.new (w.alloc (.cells #[.int .i64 m.op, .int .i64 m.dst, .int .i64 m.a, .int .i64 m.b, .int .i64 m.n] 39)) 129 #[.bool false, .bool true, .bool true, .int .i64 1])
  have HB0 : Hid (Below B w ((w.alloc (.cells #[.int .i64 m.op, .int .i64 m.dst, .int .i64 m.a, .int .i64 m.b, .int .i64 m.n] 39)).alloc (.cells #[.bool false, .bool true, .bool true, .int .i64 1] 129))) := Lib.hid (by rw [← hB]; exact ((Below.refl _ _).alloc (Nat.le_refl _) _).alloc (by simp) _)
  have HP0 : Hid (Pow ((w.alloc (.cells #[.int .i64 m.op, .int .i64 m.dst, .int .i64 m.a, .int .i64 m.b, .int .i64 m.n] 39)).alloc (.cells #[.bool false, .bool true, .bool true, .int .i64 1] 129))) := Lib.hid (hp.own (by rw [hB]; exact HB0.out))
  have Hw := Lib.hid hB
  have Hop := Lib.hid hop
  clear hp ho hop
  go_enter Tryz.func80, Tryz.ntmps80
  go_upto_region 2 with fail
  clear hB
  generalize (w.alloc (.cells #[.int .i64 m.op, .int .i64 m.dst, .int .i64 m.a, .int .i64 m.b, .int .i64 m.n] 39)).alloc (.cells #[.bool false, .bool true, .bool true, .int .i64 1] 129) = W0 at *
  have m0 := HM0.out.cell 0
  have s0 := HS0.out.cell 0
  have hop := Hop.out
  go_upto_region 5 with fail
  have HMlt : Hid (B < W0.heap.size) := Lib.hid HM0.out.lt
  have hBW : B ≤ W0.heap.size := Nat.le_of_lt HMlt.out
  clear m0 s0 hop
  obtain ⟨pw, hp0, hp1, hp2, hp3, hp4, hp5, hp6, hp7, hp8, hp9, hp10⟩ : ∃ pw : Nat → Option Value, pw 0 = some (.pointer (some ⟨B, 3, none⟩)) ∧ pw 1 = some (.int .i64 m.b) ∧ pw 2 = some (.string (mkS (114 :: Lib.itoa m.b))) ∧ pw 3 = some (.pointer (some ⟨B, 2, none⟩)) ∧ pw 4 = some (.int .i64 m.a) ∧ pw 5 = some (.string (mkS (114 :: Lib.itoa m.a))) ∧ pw 6 = some (.pointer (some ⟨B, 4, none⟩)) ∧ pw 7 = some (.int .i64 m.n) ∧ pw 8 = some (.string (mkS (Lib.itoa m.n))) ∧ pw 9 = none ∧ pw 10 = none :=
    ⟨fun k => ([some (.pointer (some ⟨B, 3, none⟩)), some (.int .i64 m.b), some (.string (mkS (114 :: Lib.itoa m.b))), some (.pointer (some ⟨B, 2, none⟩)), some (.int .i64 m.a), some (.string (mkS (114 :: Lib.itoa m.a))), some (.pointer (some ⟨B, 4, none⟩)), some (.int .i64 m.n), some (.string (mkS (Lib.itoa m.n))), none, none] : List (Option Value)).getD k none, rfl, rfl, rfl, rfl, rfl, rfl, rfl, rfl, rfl, rfl, rfl⟩
  have P0 := Lib.hid hp0
  have P1 := Lib.hid hp1
  have P2 := Lib.hid hp2
  have P3 := Lib.hid hp3
  have P4 := Lib.hid hp4
  have P5 := Lib.hid hp5
  have P6 := Lib.hid hp6
  have P7 := Lib.hid hp7
  have P8 := Lib.hid hp8
  have P9 := Lib.hid hp9
  have P10 := Lib.hid hp10
  clear hp0 hp1 hp2 hp3 hp4 hp5 hp6 hp7 hp8 hp9 hp10
  have HS0 : Hid (StoRun pw W0 [114 :: Lib.itoa m.b, 114 :: Lib.itoa m.a, Lib.itoa m.n] (fun _ => none) { W0 with drawn := W0.drawn + 1 }) := Lib.hid (StoRun.start (below_drew0 (Below.refl _ _)))
  refine wp_region_keeps (StoRun pw W0 [114 :: Lib.itoa m.b, 114 :: Lib.itoa m.a, Lib.itoa m.n]) (by kernel_rfl) (by kernel_rfl) HS0.out ?_ ?_
  · refine ⟨⟨rfl, ?_⟩, ⟨rfl, ?_⟩, ⟨rfl, ?_⟩, ⟨rfl, ?_⟩, ⟨rfl, ?_⟩, ⟨rfl, ?_⟩, ⟨rfl, ?_⟩, ⟨rfl, ?_⟩, ⟨rfl, ?_⟩, ⟨rfl, ?_⟩, ⟨rfl, ?_⟩, trivial⟩
    all_goals
      intro σ vs w' hvs hcl' hC hk hdep
      simp only [putO, Act.put, List.setIfInBounds_toArray, List.set_cons_succ, List.set_cons_zero, Nat.reduceAdd]
      have HC := Lib.hid hC
      have HD := Lib.hid hdep
      have HL := Lib.hid hcl'
      have HS := Lib.hid hk
      clear hC hdep hcl' hk hvs
    · go_simp
      refine HC.out.say P0.out (Below.refl _ _) ?_
      decide
    · have e0 := HC.out.val (HD.out ⟨0, .data⟩ (by simp) rfl) P0.out
      rw [e0]
      have q3 := (bcell HC.out.low HMlt.out).trans (HM0.out.cell 3)
      go_simp
      refine HC.out.say P1.out (Below.refl _ _) ?_
      decide
    · have e1 := HC.out.val (HD.out ⟨1, .data⟩ (by simp) rfl) P1.out
      rw [e1]
      go_simp
      refine (reg_any m.b hm.b w' (HP0.out.own HC.out.low)).mono ?_
      rintro e w2 ⟨rfl, hb⟩
      refine ⟨_, rfl, HC.out.say P2.out hb ?_⟩
      decide
    · go_simp
      refine HC.out.say P3.out (Below.refl _ _) ?_
      decide
    · have e3 := HC.out.val (HD.out ⟨3, .data⟩ (by simp) rfl) P3.out
      rw [e3]
      have q2 := (bcell HC.out.low HMlt.out).trans (HM0.out.cell 2)
      go_simp
      refine HC.out.say P4.out (Below.refl _ _) ?_
      decide
    · have e4 := HC.out.val (HD.out ⟨4, .data⟩ (by simp) rfl) P4.out
      rw [e4]
      go_simp
      refine (reg_any m.a hm.a w' (HP0.out.own HC.out.low)).mono ?_
      rintro e w2 ⟨rfl, hb⟩
      refine ⟨_, rfl, HC.out.say P5.out hb ?_⟩
      decide
    · go_simp
      refine HC.out.say P6.out (Below.refl _ _) ?_
      decide
    · have e6 := HC.out.val (HD.out ⟨6, .data⟩ (by simp) rfl) P6.out
      rw [e6]
      have q4 := (bcell HC.out.low HMlt.out).trans (HM0.out.cell 4)
      go_simp
      refine HC.out.say P7.out (Below.refl _ _) ?_
      decide
    · have e7 := HC.out.val (HD.out ⟨7, .data⟩ (by simp) rfl) P7.out
      rw [e7]
      go_simp
      refine (Itoa_any m.n hm.n w' (HP0.out.own HC.out.low)).mono ?_
      rintro e w2 ⟨rfl, hb⟩
      refine ⟨_, rfl, HC.out.say P8.out hb ?_⟩
      decide
    · have e2 := HC.out.val (HD.out ⟨2, .data⟩ (by simp) rfl) P2.out
      have e5 := HC.out.val (HD.out ⟨5, .data⟩ (by simp) rfl) P5.out
      have e8 := HC.out.val (HD.out ⟨8, .data⟩ (by simp) rfl) P8.out
      rw [e2, e5, e8]
      go_simp
      exact HC.out.make P9.out (not_done HL.out HS.out (j := 10) rfl rfl)
    · have h9 := HD.out ⟨9, .data⟩ (by simp) rfl
      go_simp
      exact HC.out.out P10.out h9
  intro σ vs w9 hC hall
  have HO := Lib.hid (hC.2.1 _ (hC.2.2 _ (hall 10 (by decide))))
  have HB9 := Lib.hid (HB0.out.trans (hC.low.mono hBW))
  simp only [putO, Act.put, List.setIfInBounds_toArray, List.set_cons_succ, List.set_cons_zero, Nat.reduceAdd]
  clear hC hall HS0 P0 P1 P2 P3 P4 P5 P6 P7 P8 P9 P10
  go_wp2_with fail
  go_ret
  refine ⟨_, rfl, ?_, by rw [Hw.out]; exact HB9.out⟩
  rw [Hw.out, HE.out]
  obtain ⟨h1, h2⟩ := HO.out
  refine ⟨h1, ?_⟩
  rcases h2 with h2 | ⟨g, cap, cur, e1, e2, e3⟩
  · exact .inl h2
  · exact .inr ⟨g, cap, cur, e1, by omega, e3⟩
/-- What an instruction's order and shape may be together. -/
theorem op_kinds {op : Int} (h : isOp op = true) :
    (op = 34 ∧ ordL op = [98, 97, 110] ∧ shD op = false ∧ shA op = true ∧ shB op = true ∧ shK op = 1) ∨ (¬ op = 34 ∧ (
    (ordL op = [100, 110] ∧ shD op = true ∧ shA op = false ∧ shB op = false ∧ shK op = 1) ∨
    (ordL op = [100, 97] ∧ shD op = true ∧ shA op = true ∧ shB op = false ∧ shK op = 0) ∨
    (ordL op = [100, 97, 98] ∧ shD op = true ∧ shA op = true ∧ shB op = true ∧ shK op = 0) ∨
    (ordL op = [100, 97, 110] ∧ shD op = true ∧ shA op = true ∧ shB op = false ∧ shK op = 1) ∨
    (ordL op = [100, 119] ∧ shD op = true ∧ shA op = false ∧ shB op = false ∧ shK op = 3) ∨
    (ordL op = [97, 119] ∧ shD op = false ∧ shA op = true ∧ shB op = false ∧ shK op = 3) ∨
    (ordL op = [116] ∧ shD op = false ∧ shA op = false ∧ shB op = false ∧ shK op = 2) ∨
    (ordL op = [97, 116] ∧ shD op = false ∧ shA op = true ∧ shB op = false ∧ shK op = 2) ∨
    (ordL op = [97, 98, 116] ∧ shD op = false ∧ shA op = true ∧ shB op = true ∧ shK op = 2) ∨
    (ordL op = [114] ∧ shD op = false ∧ shA op = false ∧ shB op = false ∧ shK op = 4) ∨
    (ordL op = [] ∧ shD op = false ∧ shA op = false ∧ shB op = false ∧ shK op = 0) ∨
    (ordL op = [100] ∧ shD op = true ∧ shA op = false ∧ shB op = false ∧ shK op = 0) ∨
    (ordL op = [97] ∧ shD op = false ∧ shA op = true ∧ shB op = false ∧ shK op = 0))) := by
  obtain ⟨h1, h2⟩ := (isOp_iff op).1 h
  by_cases hA : 5 ≤ op ∧ op ≤ 18
  · right
    refine ⟨by omega, ?_⟩
    have e : ordL op = [100, 97, 98] := by unfold ordL fldL; rw [if_neg (by omega), if_neg (by omega), if_pos hA]
    exact .inr (.inr (.inl ⟨e, sh_two op hA⟩))
  by_cases hB : 19 ≤ op ∧ op ≤ 32
  · right
    refine ⟨by omega, ?_⟩
    have e : ordL op = [100, 97, 110] := by unfold ordL fldL; rw [if_neg (by omega), if_neg (by omega), if_neg (by omega), if_pos hB]
    exact .inr (.inr (.inr (.inl ⟨e, sh_num op hB⟩)))
  by_cases hC : 40 ≤ op ∧ op ≤ 43
  · right
    refine ⟨by omega, ?_⟩
    have e : ordL op = [97, 98, 116] := by unfold ordL fldL; rw [if_neg (by omega), if_neg (by omega), if_neg (by omega), if_neg (by omega), if_pos hC]
    exact .inr (.inr (.inr (.inr (.inr (.inr (.inr (.inr (.inl ⟨e, sh_jmp op hC⟩))))))))
  obtain rfl | rfl | rfl | rfl | rfl | rfl | rfl | rfl | rfl | rfl | rfl | rfl | rfl | rfl | rfl :
    op = 1 ∨ op = 2 ∨ op = 3 ∨ op = 4 ∨ op = 33 ∨ op = 34 ∨ op = 35 ∨ op = 36 ∨ op = 37 ∨ op = 38 ∨ op = 39 ∨ op = 44 ∨ op = 45 ∨ op = 46 ∨ op = 47 := by omega
  · exact .inr ⟨by decide, .inl ⟨by decide, by decide, by decide, by decide, by decide⟩⟩
  · exact .inr ⟨by decide, .inr (.inl ⟨by decide, by decide, by decide, by decide, by decide⟩)⟩
  · exact .inr ⟨by decide, .inr (.inl ⟨by decide, by decide, by decide, by decide, by decide⟩)⟩
  · exact .inr ⟨by decide, .inr (.inl ⟨by decide, by decide, by decide, by decide, by decide⟩)⟩
  · exact .inr ⟨by decide, .inr (.inr (.inr (.inl ⟨by decide, by decide, by decide, by decide, by decide⟩)))⟩
  · exact .inl ⟨rfl, by decide, by decide, by decide, by decide, by decide⟩
  · exact .inr ⟨by decide, .inr (.inr (.inr (.inr (.inl ⟨by decide, by decide, by decide, by decide, by decide⟩))))⟩
  · exact .inr ⟨by decide, .inr (.inr (.inr (.inr (.inr (.inl ⟨by decide, by decide, by decide, by decide, by decide⟩)))))⟩
  · exact .inr ⟨by decide, .inr (.inr (.inr (.inr (.inr (.inr (.inl ⟨by decide, by decide, by decide, by decide, by decide⟩))))))⟩
  · exact .inr ⟨by decide, .inr (.inr (.inr (.inr (.inr (.inr (.inr (.inl ⟨by decide, by decide, by decide, by decide, by decide⟩)))))))⟩
  · exact .inr ⟨by decide, .inr (.inr (.inr (.inr (.inr (.inr (.inr (.inl ⟨by decide, by decide, by decide, by decide, by decide⟩)))))))⟩
  · exact .inr ⟨by decide, .inr (.inr (.inr (.inr (.inr (.inr (.inr (.inr (.inr (.inl ⟨by decide, by decide, by decide, by decide, by decide⟩)))))))))⟩
  · exact .inr ⟨by decide, .inr (.inr (.inr (.inr (.inr (.inr (.inr (.inr (.inr (.inr (.inl ⟨by decide, by decide, by decide, by decide, by decide⟩))))))))))⟩
  · exact .inr ⟨by decide, .inr (.inr (.inr (.inr (.inr (.inr (.inr (.inr (.inr (.inr (.inr (.inl ⟨by decide, by decide, by decide, by decide, by decide⟩)))))))))))⟩
  · exact .inr ⟨by decide, .inr (.inr (.inr (.inr (.inr (.inr (.inr (.inr (.inr (.inr (.inr (.inr (⟨by decide, by decide, by decide, by decide, by decide⟩))))))))))))⟩
theorem parts_any (m : Mac) (hm : m.ok) (hop : isOp m.op = true) (rt : Int → List UInt8) (fv : Value) (w : World) (hp : Pow w) (hF : shK m.op = 4 → Namer fv m.n (rt m.n) w) :
    Calls Tryz.prog 80 #[.agg #[.int .i64 m.op, .int .i64 m.dst, .int .i64 m.a, .int .i64 m.b, .int .i64 m.n], .agg #[.bool (shD m.op), .bool (shA m.op), .bool (shB m.op), .int .i64 (shK m.op)], fv] w fun e w' => ∃ v, e = .returned v ∧ OwnS w' w.heap.size v (partsL rt m) ∧ Below w.heap.size w w' := by
  rcases op_kinds hop with ⟨h0, h1, h2, h3, h4, h5⟩ | ⟨h0, h'⟩
  · rw [h2, h3, h4, h5]
    exact partsStore m hm rt fv w hp h0 h1
  · rcases h' with ⟨h1, h2, h3, h4, h5⟩ | ⟨h1, h2, h3, h4, h5⟩ | ⟨h1, h2, h3, h4, h5⟩ | ⟨h1, h2, h3, h4, h5⟩ | ⟨h1, h2, h3, h4, h5⟩ | ⟨h1, h2, h3, h4, h5⟩ | ⟨h1, h2, h3, h4, h5⟩ | ⟨h1, h2, h3, h4, h5⟩ | ⟨h1, h2, h3, h4, h5⟩ | ⟨h1, h2, h3, h4, h5⟩ | ⟨h1, h2, h3, h4, h5⟩ | ⟨h1, h2, h3, h4, h5⟩ | ⟨h1, h2, h3, h4, h5⟩
    · rw [h2, h3, h4, h5]
      exact partsSetN m hm rt fv w hp h0 h1
    · rw [h2, h3, h4, h5]
      exact partsTwo0 m hm rt fv w hp h0 h1
    · rw [h2, h3, h4, h5]
      exact partsThree m hm rt fv w hp h0 h1
    · rw [h2, h3, h4, h5]
      exact partsTwoN m hm rt fv w hp h0 h1
    · rw [h2, h3, h4, h5]
      exact partsGetW m hm rt fv w hp h0 h1
    · rw [h2, h3, h4, h5]
      exact partsPutW m hm rt fv w hp h0 h1
    · rw [h2, h3, h4, h5]
      exact partsJmp m hm rt fv w hp h0 h1
    · rw [h2, h3, h4, h5]
      exact partsIfA m hm rt fv w hp h0 h1
    · rw [h2, h3, h4, h5]
      exact partsIfAB m hm rt fv w hp h0 h1
    · rw [h2, h3, h4, h5]
      exact partsCallR m hm rt fv w hp h0 h1 (hF h5)
    · rw [h2, h3, h4, h5]
      exact partsRet m hm rt fv w hp h0 h1
    · rw [h2, h3, h4, h5]
      exact partsReadD m hm rt fv w hp h0 h1
    · rw [h2, h3, h4, h5]
      exact partsPrintA m hm rt fv w hp h0 h1
end Go.Proofs.YtdldochhondifaaGreatDoor
namespace Go.Proofs.YtdldochhondifaaGreatDoor
open Go.RowKit
attribute [local go_sem] Oper.semAt_some

/-- A row of truth values. -/
def bcells (f : Nat → Bool) (n : Nat) : Array Value := ((List.range n).map fun i => Value.bool (f i)).toArray
theorem bcells_at {f : Nat → Bool} {n i : Nat} (h : i < n) : (bcells f n)[i]? = some (.bool (f i)) := by
  unfold bcells
  rw [List.getElem?_toArray, List.getElem?_map, List.getElem?_range h]
  rfl
theorem bcells_congr {f g : Nat → Bool} {n : Nat} (h : ∀ i, i < n → f i = g i) : bcells f n = bcells g n := by
  unfold bcells
  congr 1
  apply List.map_congr_left
  intro i hi
  rw [h i (List.mem_range.1 hi)]
theorem bcells_set (f : Nat → Bool) (n k : Nat) (x : Bool) : (bcells f n).setIfInBounds k (.bool x) = bcells (fun i => if i = k then x else f i) n := by
  unfold bcells
  apply Array.ext'
  simp only [List.setIfInBounds_toArray]
  apply List.ext_getElem?
  intro i
  rw [List.getElem?_set]
  simp only [List.getElem?_map, List.length_map, List.length_range]
  by_cases hi : i < n
  · rw [List.getElem?_range hi]
    by_cases e : k = i
    · subst e
      simp [hi]
    · rw [if_neg e, Option.map_some, Option.map_some, if_neg (fun e' => e e'.symm)]
  · have hn : (List.range n)[i]? = none := List.getElem?_eq_none (by simpa using hi)
    rw [hn]
    by_cases e : k = i
    · subst e
      simp [hi]
    · rw [if_neg e]
      rfl
theorem made_bools (n : Nat) : madeCells #[.bool false] n = bcells (fun _ => false) n := by
  apply Array.ext'
  apply List.ext_getElem?
  intro i
  unfold madeCells bcells
  simp [Nat.mod_one]
theorem markL_take_zero (ms : List Mac) (i : Nat) : markL (ms.take 0) i = false := by simp [markL]
theorem markL_take_succ {ms : List Mac} {k : Nat} {m : Mac} (h : ms[k]? = some m) (i : Nat) : markL (ms.take (k + 1)) i = (markL (ms.take k) i || ((shK m.op == 2) && (m.n == (i : Int)))) := by
  unfold markL
  rw [List.take_add_one, h, List.any_append]
  simp
theorem OwnS.form {w : World} {base : Nat} {v : Value} {ss : List (List UInt8)} (h : OwnS w base v ss) : ∃ A c, v = .slice A ss.length c := by
  rcases h.2 with ⟨rfl, h0⟩ | ⟨g, cap, cur, rfl, _⟩
  · exact ⟨none, 0, by rw [h0]⟩
  · exact ⟨_, cap, rfl⟩
theorem join_any (w : World) (B : Nat) (v : Value) (ss : List (List UInt8)) (h : OwnS w B v ss) (hne : 0 < ss.length) (hN : ss.length ≤ 1000) (hlen : (Lib.join ss [44, 32]).length ≤ 140737488355328) :
    Calls Tryz.prog 81 #[v, .string { data := #[44, 32] }] w fun e w' => e = .returned (.string (mkS (Lib.join ss [44, 32]))) ∧ Below w.heap.size w w' := by
  rcases h.2 with ⟨_, h0⟩ | ⟨g, cap, cur, rfl, hb, hh, hnc, hcm, hsz, htk⟩
  · omega
  · have hmap : (ss.map mkS).map (·.data.toList) = ss := by
      rw [List.map_map]
      conv => rhs; rw [← List.map_id ss]
      apply List.map_congr_left
      intro x _
      exact mkS_list x
    have hJ := Tryz.strings_Join g 0 cap (ss.map mkS) { data := #[44, 32] } w (fun j x hj => by
      rw [List.getElem?_map, Option.map_eq_some_iff] at hj
      obtain ⟨y, hy, rfl⟩ := hj
      have hjl := (List.getElem?_eq_some_iff.1 hy).1
      have hc : w.cell? ⟨g, j, none⟩ = cur[j]? := cell_of_row w g j cur 9 (0, 0) hh
      rw [Nat.zero_add, hc]
      have hx : (cur.toList.take (ss.length * 1))[j]? = some (Value.string (mkS y)) := by
        rw [htk, List.getElem?_map, hy]
        rfl
      rw [List.getElem?_take] at hx
      split at hx
      · simpa using hx
      · cases hx) (Array.getElem?_eq_some_iff.1 hh).1 (by rw [List.length_map]; omega) (by rw [List.length_map]; exact hnc) (by rw [hmap]; exact hlen)
    rw [List.length_map, hmap] at hJ
    exact hJ
theorem textTo_next {rt : Int → List UInt8} {ms : List Mac} {j : Nat} {m : Mac} (h : ms[j]? = some m) :
    textTo rt ms (j + 1) = textTo rt ms j ++ (if markL ms j then labelL j else []) ++ ([32, 32] ++ wordL m.op ++ (if partsL rt m = [] then [] else 32 :: Lib.join (partsL rt m) [44, 32]) ++ [10]) := by
  rw [textTo_succ]
  unfold pieceL
  have hg : ms.getD j ⟨0, 0, 0, 0, 0⟩ = m := by rw [List.getD_eq_getElem?_getD, h]; rfl
  rw [hg, List.append_assoc]
  rfl
set_option maxRecDepth 100000 in
set_option maxHeartbeats 16000000 in
theorem OfText_any (v fv : Value) (ms : List Mac) (rt : Int → List UInt8) (w : World) (hv : MacsAt w w.heap.size v ms) (hok : ∀ m ∈ ms, m.ok) (hop : ∀ m ∈ ms, isOp m.op = true) (htar : ∀ m ∈ ms, shK m.op = 2 → 0 ≤ m.n ∧ m.n < (ms.length : Int))
    (hT : Tab w) (hP : Pow w) (hW : Wrd w) (hF : ∀ m ∈ ms, shK m.op = 4 → Namer fv m.n (rt m.n) w) (hr : ∀ m ∈ ms, (rt m.n).length ≤ 100) (hl0 : 0 < ms.length) (hl : ms.length ≤ 100000) :
    Calls Tryz.prog 33 #[v, fv] w fun e w' => e = .returned (.string (mkS (textL rt ms))) ∧ Below w.heap.size w w' := by
  obtain ⟨A, c, rfl, h1, h2, h3⟩ := hv
  obtain ⟨b, off, rfl, hbw, hcell⟩ := h3 hl0
  have HC := Lib.hid hcell
  have Hok := Lib.hid hok
  have Hop := Lib.hid hop
  have Htar := Lib.hid htar
  have HT := Lib.hid hT
  have HP := Lib.hid hP
  have HWd := Lib.hid hW
  have HF := Lib.hid hF
  have Hr := Lib.hid hr
  obtain ⟨n, hn⟩ : ∃ n, ms.length = n := ⟨_, rfl⟩
  have Hn := Lib.hid hn
  rw [hn] at h1 h2 hl0 hl ⊢
  obtain ⟨g1, hg1⟩ : ∃ g1, w.heap.size = g1 := ⟨_, rfl⟩
  have Hg1 := Lib.hid hg1
  have hmk := fun W : World => run_make_row' (P := Tryz.prog) 127 4 (.bool false) 1 Tryz.underlying127 (by kernel_rfl) rfl .i64 .i64 n (by omega) (by omega) W
  have HB1 : Hid (Below w.heap.size w (w.alloc (.cells (madeCells #[.bool false] n) 4))) := Lib.hid ((Below.refl _ _).alloc (Nat.le_refl _) _)
  have HK1 : Hid (Blk (w.alloc (.cells (madeCells #[.bool false] n) 4)) w.heap.size 4 (bcells (markL (ms.take 0)) n)) := Lib.hid (by
    rw [bcells_congr (g := fun _ => false) fun i _ => markL_take_zero ms i, ← made_bools]
    exact Blk.new w _ _)
  clear hcell hok hop htar hT hP hW hF hr hn h3 hg1
  go_enter Tryz.func33, Tryz.ntmps33
  go_upto_region 3 with fail
  generalize w.alloc (.cells (madeCells #[.bool false] n) 4) = W1 at *
  clear hmk
  go_loopg [22] n (fun gk iv wx => ∃ (k : Nat) (Wx : World), Wx = wx ∧ iv = .int .i64 (k : Int) ∧ k + gk = n ∧ Hid (Below w.heap.size w wx) ∧ Hid (Blk wx w.heap.size 4 (bcells (markL (ms.take k)) n)))
  case atStart => exact ⟨0, _, rfl, rfl, by omega, HB1, HK1⟩
  case round =>
    clear HB1 HK1
    obtain ⟨k, Wx, rfl, rfl, hk, HBx, HKx⟩ := hrel
    rcases gk with _ | nk
    · obtain rfl : k = n := by omega
      have hkn : ¬ (k : Int) < (k : Int) := by omega
      have HKa : Hid (Blk Wx w.heap.size 4 (bcells (markL ms) k)) := Lib.hid (by
        have h := HKx.out
        rwa [show ms.take k = ms by rw [← Hn.out, List.take_length]] at h)
      obtain ⟨gb, hgb⟩ : ∃ gb, Wx.heap.size = gb := ⟨_, rfl⟩
      have HBb : Hid (BldF gb gb (textTo rt ms 0) (Wx.alloc (.cells #[.pointer none, .slice none 0 0] 87))) := Lib.hid (by rw [textTo_zero, ← hgb]; exact bld_fresh Wx)
      have HBz : Hid (Below gb Wx (Wx.alloc (.cells #[.pointer none, .slice none 0 0] 87))) := Lib.hid ((Below.refl _ _).alloc (by omega) _)
      have Hgb : Hid (w.heap.size < gb) := Lib.hid (by rw [← hgb]; exact HKa.out.lt)
      have Hgx := Lib.hid hgb
      have HBa := HBx
      clear HKx HBx
      go_upto_region 11 with fail
      clear hgb hkn
      generalize Wx.alloc (.cells #[.pointer none, .slice none 0 0] 87) = Wb at *
      go_loopg [42] k (fun gk iv wx => ∃ (j : Nat) (Wy : World), Wy = wx ∧ iv = .int .i64 (j : Int) ∧ j + gk = k ∧ Hid (BldF gb gb (textTo rt ms j) wx) ∧ Hid (Below gb Wx wx))
      case atStart => exact ⟨0, _, rfl, rfl, by omega, HBb, HBz⟩
      case round =>
        clear HBb HBz
        obtain ⟨j, Wy, rfl, rfl, hj, HBd, HBy⟩ := hrel
        have hgw : w.heap.size ≤ gb := Nat.le_of_lt Hgb.out
        have HBw : Hid (Below w.heap.size w Wy) := Lib.hid (HBa.out.trans (HBy.out.mono hgw))
        have hgy : gb ≤ Wy.heap.size := by have := HBy.out.size; have := Hgx.out; omega
        rcases gk with _ | nk
        · obtain rfl : j = k := by omega
          have hjk : ¬ (j : Int) < (j : Int) := by omega
          have HSt := Lib.hid (Tryz.Builder_String_any_k gb gb (textTo rt ms j) Wy HBd.out hgy)
          go_wp2_with fail
          refine HSt.out.mono ?_
          rintro e W9 ⟨rfl, _, hb9, _⟩
          have HB9 := Lib.hid (HBw.out.trans (hb9.mono hgw))
          clear hb9 HSt
          go_wp2_with fail
          go_ret
          refine ⟨?_, HB9.out⟩
          unfold textL
          rw [Hn.out]
          rfl
        · have hjk : (j : Int) < (k : Int) := by omega
          have hj0 : (0 : Int) ≤ (j : Int) := Int.natCast_nonneg j
          obtain ⟨m, hm⟩ : ∃ m, ms[j]? = some m := ⟨ms[j]'(by rw [Hn.out]; omega), List.getElem?_eq_getElem _⟩
          have hmem := List.mem_of_getElem? hm
          have hmok := Hok.out m hmem
          have hmop := Hop.out m hmem
          have HmF := Lib.hid (HF.out m hmem)
          have hmr := Hr.out m hmem
          have Hm := Lib.hid hm
          obtain ⟨c0, c1, c2, c3, c4⟩ := (HC.out j m hm).below HBw.out hbw
          have HM1 : Hid (Blk (Wy.alloc (.cells #[.int .i64 m.op, .int .i64 m.dst, .int .i64 m.a, .int .i64 m.b, .int .i64 m.n] 39)) Wy.heap.size 39 #[.int .i64 m.op, .int .i64 m.dst, .int .i64 m.a, .int .i64 m.b, .int .i64 m.n]) := Lib.hid (Blk.new _ _ _)
          have HBd1 : Hid (BldF gb gb (textTo rt ms j) (Wy.alloc (.cells #[.int .i64 m.op, .int .i64 m.dst, .int .i64 m.a, .int .i64 m.b, .int .i64 m.n] 39))) := Lib.hid (bld_below HBd.out ((Below.refl _ _).alloc (Nat.le_refl _) _))
          have HBy1 : Hid (Below gb Wx (Wy.alloc (.cells #[.int .i64 m.op, .int .i64 m.dst, .int .i64 m.a, .int .i64 m.b, .int .i64 m.n] 39))) := Lib.hid (HBy.out.alloc hgy _)
          have Hg2 : Hid (gb < Wy.heap.size) := Lib.hid (by rcases HBd.out with h | h <;> exact h.lt)
          have HKy : Hid (Blk (Wy.alloc (.cells #[.int .i64 m.op, .int .i64 m.dst, .int .i64 m.a, .int .i64 m.b, .int .i64 m.n] 39)) w.heap.size 4 (bcells (markL ms) k)) := Lib.hid (HKa.out.below HBy1.out Hgb.out)
          have hjn : j < k := by omega
          have hY1 : gb ≤ (Wy.alloc (.cells #[.int .i64 m.op, .int .i64 m.dst, .int .i64 m.a, .int .i64 m.b, .int .i64 m.n] 39)).heap.size := by simp; omega
          clear hm hmem HBd HBy HBw hgy
          go_upto_region 13 with fail
          generalize Wy.alloc (.cells #[.int .i64 m.op, .int .i64 m.dst, .int .i64 m.a, .int .i64 m.b, .int .i64 m.n] 39) = Y1 at *
          generalize Wy.heap.size = g2 at *
          clear c0 c1 c2 c3 c4
          have kt : Y1.cell? ⟨w.heap.size, j, none⟩ = some (.bool (markL ms j)) := (HKy.out.cell j).trans (bcells_at hjn)
          obtain ⟨mk, hmk⟩ : ∃ mk, markL ms j = mk := ⟨_, rfl⟩
          rw [hmk] at kt
          have Hmk := Lib.hid hmk
          clear hmk
          have HLen : Hid ((textTo rt ms j).length ≤ 43000000) := Lib.hid (by
            have := textTo_len (rt := rt) (l := ms) Hok.out Hr.out (by rw [Hn.out]; omega) (k := j) (by rw [Hn.out]; omega)
            omega)
          go_upto_if 50 with fail
          clear kt HKy
          go_cut [] (fun wx => ∃ Wz : World, Wz = wx ∧ Hid (BldF gb gb (textTo rt ms j ++ (if mk then labelL j else [])) wx) ∧ Hid (Below gb Wx wx) ∧ Hid (Blk wx g2 39 #[.int .i64 m.op, .int .i64 m.dst, .int .i64 m.a, .int .i64 m.b, .int .i64 m.n]))
          case first =>
            cases mk with
            | false =>
              have HBe : Hid (BldF gb gb (textTo rt ms j ++ (if false then labelL j else [])) Y1) := Lib.hid (by simpa using HBd1.out)
              go_wp2_with fail
              go_meet
              exact ⟨_, rfl, HBe, HBy1, HM1⟩
            | true =>
              have hjI : I64 (j : Int) := ⟨by omega, by omega⟩
              have HL := Lib.hid (label_any (j : Int) hjI Y1 (HP.out.own (HBa.out.trans (HBy1.out.mono hgw))))
              have hil := itoa_len hjI
              have hsz : (mkS (76 :: Lib.itoa (j : Int))).size ≤ 21 := by rw [mkS_size, List.length_cons]; omega
              have hsum : ¬ (mkS (76 :: Lib.itoa (j : Int))).size + 2 > 9223372036854775807 := by omega
              have e1 : mkS (76 :: Lib.itoa (j : Int)) ++ ({ data := #[58, 10] } : ByteArray) = mkS (labelL j) := mkS_append _ [58, 10]
              have hll : (labelL j).length ≤ 30 := by unfold labelL; simp only [List.length_append, List.length_cons, List.length_nil]; omega
              clear hil
              go_wp2_with fail
              refine HL.out.mono ?_
              rintro e Y2 ⟨rfl, hb2⟩
              have HBd2 := Lib.hid (bld_below HBd1.out hb2)
              have HBy2 := Lib.hid (HBy1.out.trans (hb2.mono hY1))
              have HM2 := Lib.hid (HM1.out.below hb2 HM1.out.lt)
              have hY2 : gb ≤ Y2.heap.size := Nat.le_trans hY1 hb2.size
              clear hb2 HL HBd1 HBy1 HM1
              have HWr := Lib.hid (write_any gb gb (textTo rt ms j) (labelL j) Y2 HBd2.out (by have := HLen.out; omega) hY2)
              go_wp2_with fail
              refine HWr.out.mono ?_
              rintro e Y3 ⟨⟨r3, rfl⟩, hd3, hb3, ho3⟩
              have HBe : Hid (BldF gb gb (textTo rt ms j ++ (if true then labelL j else [])) Y3) := Lib.hid (by simpa using hd3)
              have HBy3 := Lib.hid (HBy2.out.trans hb3)
              have HM3 : Hid (Blk Y3 g2 39 #[.int .i64 m.op, .int .i64 m.dst, .int .i64 m.a, .int .i64 m.b, .int .i64 m.n]) := Lib.hid (ho3 g2 _ HM2.out (by have := Hg2.out; intro e; cases e; omega) (by intro c fz e; cases e))
              clear hd3 hb3 ho3 HWr
              go_wp2_with fail
              go_meet
              exact ⟨_, rfl, HBe, HBy3, HM3⟩
          case rest =>
            obtain ⟨Y3, rfl, HBd3, HBy3, HM3⟩ := hcut
            obtain ⟨pre, hpre⟩ : ∃ pre, (if mk then labelL j else []) = pre := ⟨_, rfl⟩
            have hprel : pre.length ≤ 30 := by
              rw [← hpre]
              split
              · have hil := itoa_len (n := (j : Int)) ⟨by omega, by omega⟩
                unfold labelL
                simp only [List.length_append, List.length_cons, List.length_nil]
                omega
              · simp
            rw [hpre] at HBd3
            have Hpre : Hid ((if markL ms j then labelL j else []) = pre) := Lib.hid (by rw [Hmk.out]; exact hpre)
            clear hpre
            have hY3 : gb ≤ Y3.heap.size := by have := HM3.out.lt; have := Hg2.out; omega
            have HBw3 : Hid (Below w.heap.size w Y3) := Lib.hid (HBa.out.trans (HBy3.out.mono hgw))
            have m0 := HM3.out.cell 0
            have HO := Lib.hid (Of_any m.op Y3 (HT.out.own HBw3.out))
            go_wp2_with fail
            refine HO.out.mono ?_
            rintro e Y4 ⟨rfl, hb⟩
            have hb' : Below Y3.heap.size Y3 (Y4.alloc (.cells #[.bool (shD m.op), .bool (shA m.op), .bool (shB m.op), .int .i64 (shK m.op)] 129)) := hb.alloc hb.size _
            have HBd5 := Lib.hid (bld_below HBd3.out hb')
            have HBy5 := Lib.hid (HBy3.out.trans (hb'.mono hY3))
            have HM5 := Lib.hid (HM3.out.below hb' HM3.out.lt)
            have HS5 : Hid (Blk (Y4.alloc (.cells #[.bool (shD m.op), .bool (shA m.op), .bool (shB m.op), .int .i64 (shK m.op)] 129)) Y4.heap.size 129 #[.bool (shD m.op), .bool (shA m.op), .bool (shB m.op), .int .i64 (shK m.op)]) := Lib.hid (Blk.new _ _ _)
            have hY5 : gb ≤ (Y4.alloc (.cells #[.bool (shD m.op), .bool (shA m.op), .bool (shB m.op), .int .i64 (shK m.op)] 129)).heap.size := Nat.le_trans hY3 hb'.size
            clear m0 HO hb hb' HBd3 HBy3 HM3 hY3 HBw3
            go_upto_region 16 with fail
            generalize Y4.alloc (.cells #[.bool (shD m.op), .bool (shA m.op), .bool (shB m.op), .int .i64 (shK m.op)] 129) = Y5 at *
            generalize Y4.heap.size = g3 at *
            have m0 := HM5.out.cell 0
            have HBw5 : Hid (Below w.heap.size w Y5) := Lib.hid (HBa.out.trans (HBy5.out.mono hgw))
            obtain ⟨pn, hpn⟩ : ∃ pn : Nat, plainI m.op = (pn : Int) := ⟨(plainI m.op).toNat, by rcases plain_range hmop with h | h <;> omega⟩
            have hpn48 : (pn : Int) < 48 := by rcases plain_range hmop with h | h <;> omega
            have hpn0 : (0 : Int) ≤ (pn : Int) := Int.natCast_nonneg pn
            have HPl := Lib.hid (plain_any m.op hmop Y5)
            rw [hpn] at HPl
            have kw : Y5.cell? ⟨0, pn, none⟩ = some (.string (mkS (wordL m.op))) := (HWd.out.own HBw5.out).2 pn (wordL m.op) (by
              unfold wordL
              rw [hpn, Int.toNat_natCast, List.getD_eq_getElem?_getD, List.getElem?_eq_getElem (show pn < wordTab.length by show pn < 48; omega)]
              rfl)
            have hwl := word_len m.op
            have hsz : (mkS (wordL m.op)).size ≤ 6 := by rw [mkS_size]; exact hwl
            have hsum : ¬ 2 + (mkS (wordL m.op)).size > 9223372036854775807 := by omega
            obtain ⟨L1, hL1⟩ : ∃ L1, [32, 32] ++ wordL m.op = L1 := ⟨_, rfl⟩
            have e1 : ({ data := #[32, 32] } : ByteArray) ++ mkS (wordL m.op) = mkS L1 := by rw [← hL1]; exact mkS_append [32, 32] _
            have hl1 : L1.length ≤ 8 := by rw [← hL1, List.length_append]; simp; omega
            have HL1 := Lib.hid hL1
            clear hpn hL1 hwl
            go_wp2_with fail
            refine HPl.out.mono ?_
            rintro e Y6 ⟨rfl, rfl⟩
            go_upto_region 17 with fail
            clear kw e1 hsz hsum HPl m0
            have m0 := HM5.out.cell 0
            have m1 := HM5.out.cell 1
            have m2 := HM5.out.cell 2
            have m3 := HM5.out.cell 3
            have m4 := HM5.out.cell 4
            have s0 := HS5.out.cell 0
            have s1 := HS5.out.cell 1
            have s2 := HS5.out.cell 2
            have s3 := HS5.out.cell 3
            have HPa := Lib.hid (parts_any m hmok hmop rt fv Y5 (HP.out.own HBw5.out) (fun h => (HmF.out h).own HBw5.out))
            go_wp2_with fail
            refine HPa.out.mono ?_
            rintro e Y7 ⟨pv, rfl, ho7, hb7⟩
            have HBd7 := Lib.hid (bld_below HBd5.out hb7)
            have HBy7 := Lib.hid (HBy5.out.trans (hb7.mono hY5))
            have hY7 : gb ≤ Y7.heap.size := Nat.le_trans hY5 hb7.size
            have hp3 : (partsL rt m).length ≤ 3 := by unfold partsL; rw [List.length_map]; exact ord_len _
            have hjl := parts_join_len hmok hmr
            have HO7 := Lib.hid ho7
            obtain ⟨pA, pc, rfl⟩ := ho7.form
            obtain ⟨pl, hpl⟩ : ∃ pl, (partsL rt m).length = pl := ⟨_, rfl⟩
            have Hpl := Lib.hid hpl
            rw [hpl] at HO7 hp3 ⊢
            clear m0 m1 m2 m3 m4 s0 s1 s2 s3 HPa ho7 hb7 HBd5 HBy5 HM5 HS5 hY5 HBw5 hpl
            by_cases hp0 : 0 < pl
            · have hp0' : (pl : Int) > 0 := by omega
              have HJ := Lib.hid (join_any Y7 Y5.heap.size (.slice pA pl pc) (partsL rt m) HO7.out (by rw [Hpl.out]; exact hp0) (by rw [Hpl.out]; omega) (by omega))
              obtain ⟨J, hJ⟩ : ∃ J, Lib.join (partsL rt m) [44, 32] = J := ⟨_, rfl⟩
              rw [hJ] at HJ hjl
              obtain ⟨J2, hJ2⟩ : ∃ J2, 32 :: J = J2 := ⟨_, rfl⟩
              obtain ⟨L3, hL3⟩ : ∃ L3, L1 ++ J2 = L3 := ⟨_, rfl⟩
              obtain ⟨L4, hL4⟩ : ∃ L4, L3 ++ [10] = L4 := ⟨_, rfl⟩
              have lJ2 : J2.length ≤ 307 := by rw [← hJ2, List.length_cons]; omega
              have lL3 : L3.length ≤ 315 := by rw [← hL3, List.length_append]; omega
              have lL4 : L4.length ≤ 316 := by rw [← hL4, List.length_append]; simp; omega
              have z1 : (mkS J).size ≤ 306 := by rw [mkS_size]; exact hjl
              have z2 : (mkS J2).size ≤ 307 := by rw [mkS_size]; exact lJ2
              have z3 : (mkS L1).size ≤ 8 := by rw [mkS_size]; exact hl1
              have z4 : (mkS L3).size ≤ 315 := by rw [mkS_size]; exact lL3
              have q1 : ¬ 1 + (mkS J).size > 9223372036854775807 := by omega
              have q2 : ¬ (mkS L1).size + (mkS J2).size > 9223372036854775807 := by omega
              have q3 : ¬ (mkS L3).size + 1 > 9223372036854775807 := by omega
              have e2 : ({ data := #[32] } : ByteArray) ++ mkS J = mkS J2 := by rw [← hJ2]; exact mkS_append [32] _
              have e3 : mkS L1 ++ mkS J2 = mkS L3 := by rw [← hL3]; exact mkS_append _ _
              have e4 : mkS L3 ++ ({ data := #[10] } : ByteArray) = mkS L4 := by rw [← hL4]; exact mkS_append _ [10]
              have HTx : Hid (textTo rt ms (j + 1) = textTo rt ms j ++ pre ++ L4) := Lib.hid (by
                rw [textTo_next Hm.out, Hpre.out, ← hL4, ← hL3, ← hJ2, ← hJ, ← HL1.out, if_neg (by intro h; have := Hpl.out; rw [h] at this; simp at this; omega)])
              clear hJ hJ2 hL3 hL4 z1 z2 z3 z4
              go_wp2_with fail
              refine HJ.out.mono ?_
              rintro e Y8 ⟨rfl, hb8⟩
              have HBd8 := Lib.hid (bld_below HBd7.out hb8)
              have HBy8 := Lib.hid (HBy7.out.trans (hb8.mono hY7))
              have hY8 : gb ≤ Y8.heap.size := Nat.le_trans hY7 hb8.size
              have HWr := Lib.hid (write_any gb gb _ L4 Y8 HBd8.out (by rw [List.length_append]; have := HLen.out; omega) hY8)
              clear hb8 HBd7 HBy7 hY7 HJ
              go_wp2_with fail
              refine HWr.out.mono ?_
              rintro e Y9 ⟨⟨r9, rfl⟩, hd9, hb9, _⟩
              have HBd9 : Hid (BldF gb gb (textTo rt ms (j + 1)) Y9) := Lib.hid (by rw [HTx.out]; exact hd9)
              have HBy9 := Lib.hid (HBy8.out.trans hb9)
              clear hd9 hb9 HWr e2 e3 e4 q1 q2 q3
              go_wp2_with fail
              go_roundg nk
              case measure => omega
              case rel => exact ⟨j + 1, _, rfl, by go_num, by omega, HBd9, HBy9⟩
            · obtain rfl : pl = 0 := by omega
              obtain ⟨L4, hL4⟩ : ∃ L4, L1 ++ [10] = L4 := ⟨_, rfl⟩
              have lL4 : L4.length ≤ 9 := by rw [← hL4, List.length_append]; simp; omega
              have z3 : (mkS L1).size ≤ 8 := by rw [mkS_size]; exact hl1
              have q3 : ¬ (mkS L1).size + 1 > 9223372036854775807 := by omega
              have e4 : mkS L1 ++ ({ data := #[10] } : ByteArray) = mkS L4 := by rw [← hL4]; exact mkS_append _ [10]
              have HTx : Hid (textTo rt ms (j + 1) = textTo rt ms j ++ pre ++ L4) := Lib.hid (by
                rw [textTo_next Hm.out, Hpre.out, ← hL4, ← HL1.out, if_pos (List.eq_nil_of_length_eq_zero Hpl.out), List.append_nil])
              have HWr := Lib.hid (write_any gb gb _ L4 Y7 HBd7.out (by rw [List.length_append]; have := HLen.out; omega) hY7)
              clear hL4 z3 hp0
              go_wp2_with fail
              refine HWr.out.mono ?_
              rintro e Y9 ⟨⟨r9, rfl⟩, hd9, hb9, _⟩
              have HBd9 : Hid (BldF gb gb (textTo rt ms (j + 1)) Y9) := Lib.hid (by rw [HTx.out]; exact hd9)
              have HBy9 := Lib.hid (HBy7.out.trans hb9)
              clear hd9 hb9 HWr e4 q3
              go_wp2_with fail
              go_roundg nk
              case measure => omega
              case rel => exact ⟨j + 1, _, rfl, by go_num, by omega, HBd9, HBy9⟩
    · have hkn : (k : Int) < (n : Int) := by omega
      have hk0 : (0 : Int) ≤ (k : Int) := Int.natCast_nonneg k
      obtain ⟨m, hm⟩ : ∃ m, ms[k]? = some m := ⟨ms[k]'(by rw [Hn.out]; omega), List.getElem?_eq_getElem _⟩
      have hmem := List.mem_of_getElem? hm
      have hmok := Hok.out m hmem
      have hmtar := Lib.hid (Htar.out m hmem)
      have Hm := Lib.hid hm
      obtain ⟨c0, c1, c2, c3, c4⟩ := (HC.out k m hm).below HBx.out hbw
      have HMx : Hid (Blk (Wx.alloc (.cells #[.int .i64 m.op, .int .i64 m.dst, .int .i64 m.a, .int .i64 m.b, .int .i64 m.n] 39)) Wx.heap.size 39 #[.int .i64 m.op, .int .i64 m.dst, .int .i64 m.a, .int .i64 m.b, .int .i64 m.n]) := Lib.hid (Blk.new _ _ _)
      have HB2 := Lib.hid (HBx.out.alloc HBx.out.size (.cells #[.int .i64 m.op, .int .i64 m.dst, .int .i64 m.a, .int .i64 m.b, .int .i64 m.n] 39))
      have HK2 := Lib.hid (HKx.out.alloc (.cells #[.int .i64 m.op, .int .i64 m.dst, .int .i64 m.a, .int .i64 m.b, .int .i64 m.n] 39))
      clear hm hmem
      go_upto_region 5 with fail
      generalize Wx.alloc (.cells #[.int .i64 m.op, .int .i64 m.dst, .int .i64 m.a, .int .i64 m.b, .int .i64 m.n] 39) = W2 at *
      generalize Wx.heap.size = g2 at *
      clear c0 c1 c2 c3 c4 HBx HKx
      have m0 := HMx.out.cell 0
      have HO := Lib.hid (Of_any m.op W2 (HT.out.own HB2.out))
      go_wp2_with fail
      refine HO.out.mono ?_
      rintro e W3 ⟨rfl, hb⟩
      have hz : w.heap.size ≤ W2.heap.size := HB2.out.size
      have HB3 : Hid (Below w.heap.size w (W3.alloc (.cells #[.bool (shD m.op), .bool (shA m.op), .bool (shB m.op), .int .i64 (shK m.op)] 129))) := Lib.hid ((HB2.out.trans (hb.mono hz)).alloc (Nat.le_trans hz hb.size) _)
      have HK3 := Lib.hid ((HK2.out.below hb HK2.out.lt).alloc (.cells #[.bool (shD m.op), .bool (shA m.op), .bool (shB m.op), .int .i64 (shK m.op)] 129))
      have HM3 := Lib.hid ((HMx.out.below hb HMx.out.lt).alloc (.cells #[.bool (shD m.op), .bool (shA m.op), .bool (shB m.op), .int .i64 (shK m.op)] 129))
      have HS3 : Hid (Blk (W3.alloc (.cells #[.bool (shD m.op), .bool (shA m.op), .bool (shB m.op), .int .i64 (shK m.op)] 129)) W3.heap.size 129 #[.bool (shD m.op), .bool (shA m.op), .bool (shB m.op), .int .i64 (shK m.op)]) := Lib.hid (Blk.new _ _ _)
      clear m0 HO hb hz HB2 HK2 HMx
      go_upto_region 6 with fail
      generalize W3.alloc (.cells #[.bool (shD m.op), .bool (shA m.op), .bool (shB m.op), .int .i64 (shK m.op)] 129) = W4 at *
      generalize W3.heap.size = g3 at *
      have s3 := HS3.out.cell 3
      by_cases h2k : shK m.op = 2
      · obtain ⟨t0, t1⟩ := hmtar.out h2k
        obtain ⟨t, ht⟩ : ∃ t : Nat, m.n = (t : Int) := ⟨m.n.toNat, by omega⟩
        have m4 := HM3.out.cell 4
        rw [Hn.out] at t1
        have htn : t < n := by omega
        have kt : W4.cell? ⟨w.heap.size, t, none⟩ = some (.bool (markL (ms.take k) t)) := (HK3.out.cell t).trans (bcells_at htn)
        have kz := HK3.out.frozen t
        have HK5 : Hid (Blk (W4.setCell ⟨w.heap.size, t, none⟩ (.bool true)) w.heap.size 4 (bcells (markL (ms.take (k + 1))) n)) := Lib.hid (by
          have h := HK3.out.set_ t (.bool true)
          rw [bcells_set] at h
          rw [bcells_congr (g := fun i => if i = t then true else markL (ms.take k) i) fun i _ => by
            rw [markL_take_succ Hm.out, h2k, ht]
            by_cases e : i = t
            · subst e
              simp
            · rw [if_neg e]
              have : ((t : Int) == (i : Int)) = false := by simp; omega
              simp [this]]
          exact h)
        have HB5 : Hid (Below w.heap.size w (W4.setCell ⟨w.heap.size, t, none⟩ (.bool true))) := Lib.hid (HB3.out.setCell (Nat.le_refl _) _)
        rw [ht] at t0 t1 m4
        clear hmtar HK3 HB3
        go_wp2_with fail
        go_roundg nk
        case measure => omega
        case rel => exact ⟨k + 1, _, rfl, by go_num, by omega, HB5, HK5⟩
      · have HK5 : Hid (Blk W4 w.heap.size 4 (bcells (markL (ms.take (k + 1))) n)) := Lib.hid (by
          rw [bcells_congr (g := markL (ms.take k)) fun i _ => by
            rw [markL_take_succ Hm.out]
            simp [h2k]]
          exact HK3.out)
        clear hmtar HK3
        go_wp2_with fail
        go_roundg nk
        case measure => omega
        case rel => exact ⟨k + 1, _, rfl, by go_num, by omega, HB3, HK5⟩
end Go.Proofs.YtdldochhondifaaGreatDoor
