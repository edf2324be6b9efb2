/-
  asm.parts at every instruction.
  Conditions: as at its kinds.
-/
import Derived.Test.YtdldochhondifaaDoorAsB
namespace Go.Proofs.YtdldochhondifaaDoor
open Go.RowKit
attribute [local go_sem] Oper.semAt_some

theorem below_drew0 {B : Nat} {a w : World} (h : Below B a w) : Below B a w.drew := ⟨h.os, h.tape, h.output, h.size, h.block⟩
/-- A row laid anew is the call's own. -/
theorem own_new (w : World) (base : Nat) (e : TypeId) (xs : List Value) (hb : base ≤ w.heap.size) (hm : xs.length ≤ maxLen) : (w.alloc (.cells xs.toArray e)).ownsRow base e 1 (.slice (some ⟨w.heap.size, 0, none⟩) xs.length xs.length) xs.length xs :=
  ⟨by simp, .inr ⟨w.heap.size, xs.length, xs.toArray, rfl, hb, heap_alloc_new w _, Nat.le_refl _, hm, by simp, by simp⟩⟩
/-- The region of the three parts: what its operations yield. -/
def StoRun (pv : Nat → Option Value) (w0 : World) (ss : List (List UInt8)) (σ : Nat → Option Value) (w : World) : Prop :=
  KnownRun pv w0 σ w ∧ (∀ u, σ 9 = some u → OwnS w w0.heap.size u ss) ∧ (∀ u, σ 10 = some u → σ 9 = some u)
section
variable {pv : Nat → Option Value} {w0 : World} {ss : List (List UInt8)} {σ : Nat → Option Value} {w w' : World}
theorem StoRun.start (h : Below w0.heap.size w0 w) : StoRun pv w0 ss (fun _ => none) w := ⟨KnownRun.start h, by simp, by simp⟩
theorem StoRun.low (h : StoRun pv w0 ss σ w) : Below w0.heap.size w0 w := h.1.1
theorem StoRun.val (h : StoRun pv w0 ss σ w) {k : Nat} {u v : Value} (hu : σ k = some u) (hp : pv k = some v) : u = v := h.1.val hu hp
theorem StoRun.say (h : StoRun pv w0 ss σ w) {k : Nat} {v : Value} (hk : pv k = some v) (hb : Below w.heap.size w w') (hn : k ≠ 9 ∧ k ≠ 10) : StoRun pv w0 ss (upd σ k v) w' := by
  refine ⟨h.1.say hk hb, ?_, ?_⟩
  · rw [upd_ne hn.1.symm]
    exact fun u hu => (h.2.1 u hu).below hb
  · rw [upd_ne hn.2.symm, upd_ne hn.1.symm]
    exact h.2.2
theorem StoRun.make {x y z : List UInt8} (h : StoRun pv w0 [x, y, z] σ w) (hp : pv 9 = none) (h10 : σ 10 = none) :
    StoRun pv w0 [x, y, z] (upd σ 9 (.slice (some ⟨w.heap.size, 0, none⟩) 3 3)) (w.alloc (.cells #[.string (mkS x), .string (mkS y), .string (mkS z)] 9)) := by
  refine ⟨h.1.free hp _ ((Below.refl _ _).alloc (Nat.le_refl _) _), ?_, ?_⟩
  · rw [upd_same]
    intro u hu
    cases hu
    exact own_new w w0.heap.size 9 [.string (mkS x), .string (mkS y), .string (mkS z)] h.low.size (by unfold maxLen; simp)
  · rw [upd_ne (by decide), h10]
    intro u hu
    cases hu
theorem StoRun.out (h : StoRun pv w0 ss σ w) (hp : pv 10 = none) {u : Value} (hu : σ 9 = some u) : StoRun pv w0 ss (upd σ 10 u) w := by
  refine ⟨h.1.free hp _ (Below.refl _ _), ?_, ?_⟩
  · rw [upd_ne (by decide)]
    exact h.2.1
  · rw [upd_same, upd_ne (by decide)]
    intro x hx
    cases hx
    exact hu
end
set_option maxRecDepth 100000 in
set_option maxHeartbeats 8000000 in
theorem partsStore (m : Mac) (hm : m.ok) (rt : Int → List UInt8) (fv : Value) (w : World) (hp : Pow w) (hop : m.op = 34) (ho : ordL m.op = [98, 97, 110]) :
    Calls Tryd.prog 26 #[.agg #[.int .i64 m.op, .int .i64 m.dst, .int .i64 m.a, .int .i64 m.b, .int .i64 m.n], .agg #[.bool false, .bool true, .bool true, .int .i64 1], fv] w fun e w' => ∃ v, e = .returned v ∧ OwnS w' w.heap.size v (partsL rt m) ∧ Below w.heap.size w w' := by
  have HE : Hid (partsL rt m = [114 :: Lib.itoa m.b, 114 :: Lib.itoa m.a, Lib.itoa m.n]) := Lib.hid (by unfold partsL; rw [ho]; rfl)
  obtain ⟨B, hB⟩ : ∃ B, w.heap.size = B := ⟨_, rfl⟩
  have HM0 : Hid (Blk ((w.alloc (.cells #[.int .i64 m.op, .int .i64 m.dst, .int .i64 m.a, .int .i64 m.b, .int .i64 m.n] 57)).alloc (.cells #[.bool false, .bool true, .bool true, .int .i64 1] 61)) B 57 #[.int .i64 m.op, .int .i64 m.dst, .int .i64 m.a, .int .i64 m.b, .int .i64 m.n]) := Lib.hid (by rw [← hB]; exact (Blk.new w _ _).alloc _)
  have HS0 : Hid (Blk ((w.alloc (.cells #[.int .i64 m.op, .int .i64 m.dst, .int .i64 m.a, .int .i64 m.b, .int .i64 m.n] 57)).alloc (.cells #[.bool false, .bool true, .bool true, .int .i64 1] 61)) (B + 1) 61 #[.bool false, .bool true, .bool true, .int .i64 1]) := Lib.hid (by simpa [← hB] using Blk.new (w.alloc (.cells #[.int .i64 m.op, .int .i64 m.dst, .int .i64 m.a, .int .i64 m.b, .int .i64 m.n] 57)) 61 #[.bool false, .bool true, .bool true, .int .i64 1])
  have HB0 : Hid (Below B w ((w.alloc (.cells #[.int .i64 m.op, .int .i64 m.dst, .int .i64 m.a, .int .i64 m.b, .int .i64 m.n] 57)).alloc (.cells #[.bool false, .bool true, .bool true, .int .i64 1] 61))) := Lib.hid (by rw [← hB]; exact ((Below.refl _ _).alloc (Nat.le_refl _) _).alloc (by simp) _)
  have HP0 : Hid (Pow ((w.alloc (.cells #[.int .i64 m.op, .int .i64 m.dst, .int .i64 m.a, .int .i64 m.b, .int .i64 m.n] 57)).alloc (.cells #[.bool false, .bool true, .bool true, .int .i64 1] 61))) := Lib.hid (hp.own (by rw [hB]; exact HB0.out))
  have Hw := Lib.hid hB
  have Hop := Lib.hid hop
  clear hp ho hop
  go_enter Tryd.func26, Tryd.ntmps26
  go_upto_region 2 with fail
  clear hB
  generalize (w.alloc (.cells #[.int .i64 m.op, .int .i64 m.dst, .int .i64 m.a, .int .i64 m.b, .int .i64 m.n] 57)).alloc (.cells #[.bool false, .bool true, .bool true, .int .i64 1] 61) = W0 at *
  have m0 := HM0.out.cell 0
  have s0 := HS0.out.cell 0
  have hop := Hop.out
  go_upto_region 5 with fail
  have HMlt : Hid (B < W0.heap.size) := Lib.hid HM0.out.lt
  have hBW : B ≤ W0.heap.size := Nat.le_of_lt HMlt.out
  clear m0 s0 hop
  obtain ⟨pw, hp0, hp1, hp2, hp3, hp4, hp5, hp6, hp7, hp8, hp9, hp10⟩ : ∃ pw : Nat → Option Value, pw 0 = some (.pointer (some ⟨B, 3, none⟩)) ∧ pw 1 = some (.int .i64 m.b) ∧ pw 2 = some (.string (mkS (114 :: Lib.itoa m.b))) ∧ pw 3 = some (.pointer (some ⟨B, 2, none⟩)) ∧ pw 4 = some (.int .i64 m.a) ∧ pw 5 = some (.string (mkS (114 :: Lib.itoa m.a))) ∧ pw 6 = some (.pointer (some ⟨B, 4, none⟩)) ∧ pw 7 = some (.int .i64 m.n) ∧ pw 8 = some (.string (mkS (Lib.itoa m.n))) ∧ pw 9 = none ∧ pw 10 = none :=
    ⟨fun k => ([some (.pointer (some ⟨B, 3, none⟩)), some (.int .i64 m.b), some (.string (mkS (114 :: Lib.itoa m.b))), some (.pointer (some ⟨B, 2, none⟩)), some (.int .i64 m.a), some (.string (mkS (114 :: Lib.itoa m.a))), some (.pointer (some ⟨B, 4, none⟩)), some (.int .i64 m.n), some (.string (mkS (Lib.itoa m.n))), none, none] : List (Option Value)).getD k none, rfl, rfl, rfl, rfl, rfl, rfl, rfl, rfl, rfl, rfl, rfl⟩
  have P0 := Lib.hid hp0
  have P1 := Lib.hid hp1
  have P2 := Lib.hid hp2
  have P3 := Lib.hid hp3
  have P4 := Lib.hid hp4
  have P5 := Lib.hid hp5
  have P6 := Lib.hid hp6
  have P7 := Lib.hid hp7
  have P8 := Lib.hid hp8
  have P9 := Lib.hid hp9
  have P10 := Lib.hid hp10
  clear hp0 hp1 hp2 hp3 hp4 hp5 hp6 hp7 hp8 hp9 hp10
  have HS0 : Hid (StoRun pw W0 [114 :: Lib.itoa m.b, 114 :: Lib.itoa m.a, Lib.itoa m.n] (fun _ => none) { W0 with drawn := W0.drawn + 1 }) := Lib.hid (StoRun.start (below_drew0 (Below.refl _ _)))
  refine wp_region_keeps (StoRun pw W0 [114 :: Lib.itoa m.b, 114 :: Lib.itoa m.a, Lib.itoa m.n]) (by kernel_rfl) (by kernel_rfl) HS0.out ?_ ?_
  · refine ⟨⟨rfl, ?_⟩, ⟨rfl, ?_⟩, ⟨rfl, ?_⟩, ⟨rfl, ?_⟩, ⟨rfl, ?_⟩, ⟨rfl, ?_⟩, ⟨rfl, ?_⟩, ⟨rfl, ?_⟩, ⟨rfl, ?_⟩, ⟨rfl, ?_⟩, ⟨rfl, ?_⟩, trivial⟩
    all_goals
      intro σ vs w' hvs hcl' hC hk hdep
      simp only [putO, Act.put, List.setIfInBounds_toArray, List.set_cons_succ, List.set_cons_zero, Nat.reduceAdd]
      have HC := Lib.hid hC
      have HD := Lib.hid hdep
      have HL := Lib.hid hcl'
      have HS := Lib.hid hk
      clear hC hdep hcl' hk hvs
    · go_simp
      refine HC.out.say P0.out (Below.refl _ _) ?_
      decide
    · have e0 := HC.out.val (HD.out ⟨0, .data⟩ (by simp) rfl) P0.out
      rw [e0]
      have q3 := (bcell HC.out.low HMlt.out).trans (HM0.out.cell 3)
      go_simp
      refine HC.out.say P1.out (Below.refl _ _) ?_
      decide
    · have e1 := HC.out.val (HD.out ⟨1, .data⟩ (by simp) rfl) P1.out
      rw [e1]
      go_simp
      refine (reg_any m.b hm.b w' (HP0.out.own HC.out.low)).mono ?_
      rintro e w2 ⟨rfl, hb⟩
      refine ⟨_, rfl, HC.out.say P2.out hb ?_⟩
      decide
    · go_simp
      refine HC.out.say P3.out (Below.refl _ _) ?_
      decide
    · have e3 := HC.out.val (HD.out ⟨3, .data⟩ (by simp) rfl) P3.out
      rw [e3]
      have q2 := (bcell HC.out.low HMlt.out).trans (HM0.out.cell 2)
      go_simp
      refine HC.out.say P4.out (Below.refl _ _) ?_
      decide
    · have e4 := HC.out.val (HD.out ⟨4, .data⟩ (by simp) rfl) P4.out
      rw [e4]
      go_simp
      refine (reg_any m.a hm.a w' (HP0.out.own HC.out.low)).mono ?_
      rintro e w2 ⟨rfl, hb⟩
      refine ⟨_, rfl, HC.out.say P5.out hb ?_⟩
      decide
    · go_simp
      refine HC.out.say P6.out (Below.refl _ _) ?_
      decide
    · have e6 := HC.out.val (HD.out ⟨6, .data⟩ (by simp) rfl) P6.out
      rw [e6]
      have q4 := (bcell HC.out.low HMlt.out).trans (HM0.out.cell 4)
      go_simp
      refine HC.out.say P7.out (Below.refl _ _) ?_
      decide
    · have e7 := HC.out.val (HD.out ⟨7, .data⟩ (by simp) rfl) P7.out
      rw [e7]
      go_simp
      refine (Itoa_any m.n hm.n w' (HP0.out.own HC.out.low)).mono ?_
      rintro e w2 ⟨rfl, hb⟩
      refine ⟨_, rfl, HC.out.say P8.out hb ?_⟩
      decide
    · have e2 := HC.out.val (HD.out ⟨2, .data⟩ (by simp) rfl) P2.out
      have e5 := HC.out.val (HD.out ⟨5, .data⟩ (by simp) rfl) P5.out
      have e8 := HC.out.val (HD.out ⟨8, .data⟩ (by simp) rfl) P8.out
      rw [e2, e5, e8]
      go_simp
      exact HC.out.make P9.out (not_done HL.out HS.out (j := 10) rfl rfl)
    · have h9 := HD.out ⟨9, .data⟩ (by simp) rfl
      go_simp
      exact HC.out.out P10.out h9
  intro σ vs w9 hC hall
  have HO := Lib.hid (hC.2.1 _ (hC.2.2 _ (hall 10 (by decide))))
  have HB9 := Lib.hid (HB0.out.trans (hC.low.mono hBW))
  simp only [putO, Act.put, List.setIfInBounds_toArray, List.set_cons_succ, List.set_cons_zero, Nat.reduceAdd]
  clear hC hall HS0 P0 P1 P2 P3 P4 P5 P6 P7 P8 P9 P10
  go_wp2_with fail
  go_ret
  refine ⟨_, rfl, ?_, by rw [Hw.out]; exact HB9.out⟩
  rw [Hw.out, HE.out]
  obtain ⟨h1, h2⟩ := HO.out
  refine ⟨h1, ?_⟩
  rcases h2 with h2 | ⟨g, cap, cur, e1, e2, e3⟩
  · exact .inl h2
  · exact .inr ⟨g, cap, cur, e1, by omega, e3⟩
/-- What an instruction's order and shape may be together. -/
theorem op_kinds {op : Int} (h : isOp op = true) :
    (op = 34 ∧ ordL op = [98, 97, 110] ∧ shD op = false ∧ shA op = true ∧ shB op = true ∧ shK op = 1) ∨ (¬ op = 34 ∧ (
    (ordL op = [100, 110] ∧ shD op = true ∧ shA op = false ∧ shB op = false ∧ shK op = 1) ∨
    (ordL op = [100, 97] ∧ shD op = true ∧ shA op = true ∧ shB op = false ∧ shK op = 0) ∨
    (ordL op = [100, 97, 98] ∧ shD op = true ∧ shA op = true ∧ shB op = true ∧ shK op = 0) ∨
    (ordL op = [100, 97, 110] ∧ shD op = true ∧ shA op = true ∧ shB op = false ∧ shK op = 1) ∨
    (ordL op = [100, 119] ∧ shD op = true ∧ shA op = false ∧ shB op = false ∧ shK op = 3) ∨
    (ordL op = [97, 119] ∧ shD op = false ∧ shA op = true ∧ shB op = false ∧ shK op = 3) ∨
    (ordL op = [116] ∧ shD op = false ∧ shA op = false ∧ shB op = false ∧ shK op = 2) ∨
    (ordL op = [97, 116] ∧ shD op = false ∧ shA op = true ∧ shB op = false ∧ shK op = 2) ∨
    (ordL op = [97, 98, 116] ∧ shD op = false ∧ shA op = true ∧ shB op = true ∧ shK op = 2) ∨
    (ordL op = [114] ∧ shD op = false ∧ shA op = false ∧ shB op = false ∧ shK op = 4) ∨
    (ordL op = [] ∧ shD op = false ∧ shA op = false ∧ shB op = false ∧ shK op = 0) ∨
    (ordL op = [100] ∧ shD op = true ∧ shA op = false ∧ shB op = false ∧ shK op = 0) ∨
    (ordL op = [97] ∧ shD op = false ∧ shA op = true ∧ shB op = false ∧ shK op = 0))) := by
  obtain ⟨h1, h2⟩ := (isOp_iff op).1 h
  by_cases hA : 5 ≤ op ∧ op ≤ 18
  · right
    refine ⟨by omega, ?_⟩
    have e : ordL op = [100, 97, 98] := by unfold ordL fldL; rw [if_neg (by omega), if_neg (by omega), if_pos hA]
    exact .inr (.inr (.inl ⟨e, sh_two op hA⟩))
  by_cases hB : 19 ≤ op ∧ op ≤ 32
  · right
    refine ⟨by omega, ?_⟩
    have e : ordL op = [100, 97, 110] := by unfold ordL fldL; rw [if_neg (by omega), if_neg (by omega), if_neg (by omega), if_pos hB]
    exact .inr (.inr (.inr (.inl ⟨e, sh_num op hB⟩)))
  by_cases hC : 40 ≤ op ∧ op ≤ 43
  · right
    refine ⟨by omega, ?_⟩
    have e : ordL op = [97, 98, 116] := by unfold ordL fldL; rw [if_neg (by omega), if_neg (by omega), if_neg (by omega), if_neg (by omega), if_pos hC]
    exact .inr (.inr (.inr (.inr (.inr (.inr (.inr (.inr (.inl ⟨e, sh_jmp op hC⟩))))))))
  obtain rfl | rfl | rfl | rfl | rfl | rfl | rfl | rfl | rfl | rfl | rfl | rfl | rfl | rfl | rfl :
    op = 1 ∨ op = 2 ∨ op = 3 ∨ op = 4 ∨ op = 33 ∨ op = 34 ∨ op = 35 ∨ op = 36 ∨ op = 37 ∨ op = 38 ∨ op = 39 ∨ op = 44 ∨ op = 45 ∨ op = 46 ∨ op = 47 := by omega
  · exact .inr ⟨by decide, .inl ⟨by decide, by decide, by decide, by decide, by decide⟩⟩
  · exact .inr ⟨by decide, .inr (.inl ⟨by decide, by decide, by decide, by decide, by decide⟩)⟩
  · exact .inr ⟨by decide, .inr (.inl ⟨by decide, by decide, by decide, by decide, by decide⟩)⟩
  · exact .inr ⟨by decide, .inr (.inl ⟨by decide, by decide, by decide, by decide, by decide⟩)⟩
  · exact .inr ⟨by decide, .inr (.inr (.inr (.inl ⟨by decide, by decide, by decide, by decide, by decide⟩)))⟩
  · exact .inl ⟨rfl, by decide, by decide, by decide, by decide, by decide⟩
  · exact .inr ⟨by decide, .inr (.inr (.inr (.inr (.inl ⟨by decide, by decide, by decide, by decide, by decide⟩))))⟩
  · exact .inr ⟨by decide, .inr (.inr (.inr (.inr (.inr (.inl ⟨by decide, by decide, by decide, by decide, by decide⟩)))))⟩
  · exact .inr ⟨by decide, .inr (.inr (.inr (.inr (.inr (.inr (.inl ⟨by decide, by decide, by decide, by decide, by decide⟩))))))⟩
  · exact .inr ⟨by decide, .inr (.inr (.inr (.inr (.inr (.inr (.inr (.inl ⟨by decide, by decide, by decide, by decide, by decide⟩)))))))⟩
  · exact .inr ⟨by decide, .inr (.inr (.inr (.inr (.inr (.inr (.inr (.inl ⟨by decide, by decide, by decide, by decide, by decide⟩)))))))⟩
  · exact .inr ⟨by decide, .inr (.inr (.inr (.inr (.inr (.inr (.inr (.inr (.inr (.inl ⟨by decide, by decide, by decide, by decide, by decide⟩)))))))))⟩
  · exact .inr ⟨by decide, .inr (.inr (.inr (.inr (.inr (.inr (.inr (.inr (.inr (.inr (.inl ⟨by decide, by decide, by decide, by decide, by decide⟩))))))))))⟩
  · exact .inr ⟨by decide, .inr (.inr (.inr (.inr (.inr (.inr (.inr (.inr (.inr (.inr (.inr (.inl ⟨by decide, by decide, by decide, by decide, by decide⟩)))))))))))⟩
  · exact .inr ⟨by decide, .inr (.inr (.inr (.inr (.inr (.inr (.inr (.inr (.inr (.inr (.inr (.inr (⟨by decide, by decide, by decide, by decide, by decide⟩))))))))))))⟩
theorem parts_any (m : Mac) (hm : m.ok) (hop : isOp m.op = true) (rt : Int → List UInt8) (fv : Value) (w : World) (hp : Pow w) (hF : shK m.op = 4 → Namer fv m.n (rt m.n) w) :
    Calls Tryd.prog 26 #[.agg #[.int .i64 m.op, .int .i64 m.dst, .int .i64 m.a, .int .i64 m.b, .int .i64 m.n], .agg #[.bool (shD m.op), .bool (shA m.op), .bool (shB m.op), .int .i64 (shK m.op)], fv] w fun e w' => ∃ v, e = .returned v ∧ OwnS w' w.heap.size v (partsL rt m) ∧ Below w.heap.size w w' := by
  rcases op_kinds hop with ⟨h0, h1, h2, h3, h4, h5⟩ | ⟨h0, h'⟩
  · rw [h2, h3, h4, h5]
    exact partsStore m hm rt fv w hp h0 h1
  · rcases h' with ⟨h1, h2, h3, h4, h5⟩ | ⟨h1, h2, h3, h4, h5⟩ | ⟨h1, h2, h3, h4, h5⟩ | ⟨h1, h2, h3, h4, h5⟩ | ⟨h1, h2, h3, h4, h5⟩ | ⟨h1, h2, h3, h4, h5⟩ | ⟨h1, h2, h3, h4, h5⟩ | ⟨h1, h2, h3, h4, h5⟩ | ⟨h1, h2, h3, h4, h5⟩ | ⟨h1, h2, h3, h4, h5⟩ | ⟨h1, h2, h3, h4, h5⟩ | ⟨h1, h2, h3, h4, h5⟩ | ⟨h1, h2, h3, h4, h5⟩
    · rw [h2, h3, h4, h5]
      exact partsSetN m hm rt fv w hp h0 h1
    · rw [h2, h3, h4, h5]
      exact partsTwo0 m hm rt fv w hp h0 h1
    · rw [h2, h3, h4, h5]
      exact partsThree m hm rt fv w hp h0 h1
    · rw [h2, h3, h4, h5]
      exact partsTwoN m hm rt fv w hp h0 h1
    · rw [h2, h3, h4, h5]
      exact partsGetW m hm rt fv w hp h0 h1
    · rw [h2, h3, h4, h5]
      exact partsPutW m hm rt fv w hp h0 h1
    · rw [h2, h3, h4, h5]
      exact partsJmp m hm rt fv w hp h0 h1
    · rw [h2, h3, h4, h5]
      exact partsIfA m hm rt fv w hp h0 h1
    · rw [h2, h3, h4, h5]
      exact partsIfAB m hm rt fv w hp h0 h1
    · rw [h2, h3, h4, h5]
      exact partsCallR m hm rt fv w hp h0 h1 (hF h5)
    · rw [h2, h3, h4, h5]
      exact partsRet m hm rt fv w hp h0 h1
    · rw [h2, h3, h4, h5]
      exact partsReadD m hm rt fv w hp h0 h1
    · rw [h2, h3, h4, h5]
      exact partsPrintA m hm rt fv w hp h0 h1
end Go.Proofs.YtdldochhondifaaDoor
