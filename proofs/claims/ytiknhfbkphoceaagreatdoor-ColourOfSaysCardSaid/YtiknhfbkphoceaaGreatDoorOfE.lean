/-
  The reference's clashing.
  Conditions: as the theorems say.
-/
import Derived.Test.YtiknhfbkphoceaaGreatDoorOfC
import Derived.Test.YtiknhfbkphoceaaGreatDoorOfD
namespace Go.Proofs.YtiknhfbkphoceaaGreatDoor
open Go.RowKit

theorem evAll_mem (bs : List BlkU) (e : InsU × (Int → Bool)) : e ∈ evAll bs bs.length ↔ ∃ (i j : Nat) (b : BlkU) (x : InsU), bs[i]? = some b ∧ b.list[j]? = some x ∧ e = (x, upTo (b.list.drop (j + 1)) (endU b (inU bs))) := by
  unfold evAll
  rw [List.take_length, List.mem_flatten]
  constructor
  · rintro ⟨_, hm, he⟩
    obtain ⟨b, hb, rfl⟩ := List.mem_map.1 hm
    obtain ⟨i, hi⟩ := List.getElem?_of_mem hb
    obtain ⟨j, x, hx, rfl⟩ := (evF_mem _ _ _).1 he
    exact ⟨i, j, b, x, hi, hx, rfl⟩
  · rintro ⟨i, j, b, x, hi, hx, rfl⟩
    exact ⟨evB bs b, List.mem_map_of_mem (List.mem_of_getElem? hi), (evF_mem _ _ _).2 ⟨j, x, hx, rfl⟩⟩
/-- Does an instruction whose register is a make it clash with b, as the reference asks it? -/
noncomputable def clAt (bs : List BlkU) (a b : Int) (i k : Nat) : Bool := match bs[i]? with
  | some blk => match blk.list[k]? with
    | some x => decide (x.dst = a) && (atU bs i (k + 1) b && (decide (x.op ≠ 1) || !takesU x b))
    | none => false
  | none => false
theorem clAt_some {bs : List BlkU} {i k : Nat} {blk : BlkU} {x : InsU} (hi : bs[i]? = some blk) (hk : blk.list[k]? = some x) (a b : Int) : clAt bs a b i k = (decide (x.dst = a) && (atU bs i (k + 1) b && (decide (x.op ≠ 1) || !takesU x b))) := by
  unfold clAt
  rw [hi]
  simp only [hk]
noncomputable def clIn (bs : List BlkU) (a b : Int) (i k : Nat) : Bool := (List.range k).any fun k' => clAt bs a b i k' || clAt bs b a i k'
noncomputable def clTo (bs : List BlkU) (a b : Int) (i : Nat) : Bool := (List.range i).any fun i' => clIn bs a b i' (lenR bs i')
noncomputable def clashB (bs : List BlkU) (a b : Int) : Bool := (atU bs 0 0 a && atU bs 0 0 b) || clTo bs a b bs.length
theorem clIn_succ (bs : List BlkU) (a b : Int) (i k : Nat) : clIn bs a b i (k + 1) = (clIn bs a b i k || (clAt bs a b i k || clAt bs b a i k)) := by
  unfold clIn
  rw [List.range_succ, List.any_append]
  simp
theorem clTo_succ (bs : List BlkU) (a b : Int) (i : Nat) : clTo bs a b (i + 1) = (clTo bs a b i || clIn bs a b i (lenR bs i)) := by
  unfold clTo
  rw [List.range_succ, List.any_append]
  simp
theorem clTo_hit {bs : List BlkU} {a b : Int} {i k : Nat} {blk : BlkU} (hi : bs[i]? = some blk) (hk : k < blk.list.length) (h : clAt bs a b i k = true ∨ clAt bs b a i k = true) : clashB bs a b = true := by
  unfold clashB
  rw [Bool.or_eq_true]
  refine .inr ?_
  unfold clTo clIn
  simp only [List.any_eq_true, List.mem_range, Bool.or_eq_true]
  exact ⟨i, (List.getElem?_eq_some_iff.1 hi).1, k, by rw [lenR_some hi]; exact hk, h⟩
theorem asks_takes {ps : List Int} {regs : Int} {x : InsU} (h : InsOk ps regs x) (b : Int) : asksC x b = (decide (x.op ≠ 1) || !takesU x b) := by
  unfold asksC
  by_cases hop : x.op = 1
  · have hB : x.b = Opd.zero := h.noB (by rw [hop]; rfl)
    have hA := (h.plain (by omega)).2
    have e : takesU x b = (x.a.reg && decide (x.a.n = b)) := by
      unfold takesU
      rw [hA, hB, Bool.eq_iff_iff, decide_eq_true_eq, Bool.and_eq_true, decide_eq_true_eq, show occV Opd.zero = [] from rfl, show occVs [] = [] from rfl, List.append_nil, List.append_nil, occV_mem]
    rw [e]
    simp [hop]
  · simp [hop]
/-- The reference asks what the program's sets tell. -/
theorem clashB_all {ps : List Int} {regs : Int} {bs : List BlkU} (hok : ∀ b ∈ bs, ∀ x ∈ b.list, InsOk ps regs x) {a b : Int} (hab : a ≠ b) (ha : 0 ≤ a) (hb : 0 ≤ b) : clashB bs a b = ofS bs a b := by
  unfold clashB ofS clashS beginS
  rw [atU_zero, atU_zero, decide_eq_true hab, Bool.true_and, Bool.true_and]
  congr 1
  have key : ∀ {c d : Int} {i j : Nat} {blk : BlkU} {x : InsU}, 0 ≤ c → bs[i]? = some blk → blk.list[j]? = some x → evC (x, upTo (blk.list.drop (j + 1)) (endU blk (inU bs))) c d = clAt bs c d i j := by
    intro c d i j blk x hc hi hj
    rw [clAt_some hi hj, atU_at hi]
    unfold evC
    rw [asks_takes (hok blk (List.mem_of_getElem? hi) x (List.mem_of_getElem? hj))]
    by_cases hd : x.dst = c
    · simp [hd, hc]
    · simp [hd]
  rw [Bool.eq_iff_iff]
  unfold clTo clIn
  simp only [List.any_eq_true, List.mem_range, Bool.or_eq_true]
  constructor
  · rintro ⟨i, _, j, _, h⟩
    have hs : ∃ blk x, bs[i]? = some blk ∧ blk.list[j]? = some x := by
      unfold clAt at h
      cases hi : bs[i]? with
      | none => rw [hi] at h; simp at h
      | some blk =>
        rw [hi] at h
        simp only at h
        cases hj : blk.list[j]? with
        | none => rw [hj] at h; simp at h
        | some x => exact ⟨blk, x, rfl, hj⟩
    obtain ⟨blk, x, hi, hj⟩ := hs
    refine ⟨_, (evAll_mem bs _).2 ⟨i, j, blk, x, hi, hj, rfl⟩, ?_⟩
    rw [key ha hi hj, key hb hi hj]
    exact h
  · rintro ⟨e, he, h⟩
    obtain ⟨i, j, blk, x, hi, hj, rfl⟩ := (evAll_mem bs e).1 he
    rw [key ha hi hj, key hb hi hj] at h
    exact ⟨i, (List.getElem?_eq_some_iff.1 hi).1, j, by rw [lenR_some hi]; exact (List.getElem?_eq_some_iff.1 hj).1, h⟩
set_option maxRecDepth 100000 in
set_option maxHeartbeats 8000000 in
theorem Clashing_any (nm : ByteArray) (ps : Int) (nr : Nat) (bA : Option Addr) (bl bc : Nat) (blocks : List BlkU) (base : Nat) (vA : Option Addr) (vc : Nat) (a b : Nat) (w : World) (hb : BlksAt w w.heap.size (.slice bA bl bc) blocks) (hln : blocks.length = bl) (hbl : bl ≤ 40) (hb0 : 0 < bl)
    (hL : LivesOwn w base (.slice vA nr vc) blocks nr) (ha : a < nr) (hbn : b < nr) :
    Calls Tryz.prog 44 #[.agg #[.string nm, .int .i64 ps, .int .i64 (nr : Int), .slice bA bl bc], .slice vA nr vc, .int .i64 (a : Int), .int .i64 (b : Int)] w fun e w' => e = .returned (.bool (clashB blocks a b)) ∧ Below w.heap.size w w' := by
  have HBL := Lib.hid hb
  have Hln := Lib.hid hln
  have HL := Lib.hid hL
  obtain ⟨g0, gA, cA, rfl, hcA, hAi⟩ := hL.at_ ha
  obtain ⟨g0', gB, cB, e0, hcB, hBi⟩ := hL.at_ hbn
  injection e0 with e0
  injection e0 with e0
  subst e0
  obtain ⟨gA1, gA2, rfl, hA1, hA2⟩ := hAi 0 (by omega)
  obtain ⟨gB1, gB2, rfl, hB1, hB2⟩ := hBi 0 (by omega)
  have hA2 := hA2 0 (Nat.zero_le _)
  have hB2 := hB2 0 (Nat.zero_le _)
  have ha1 : (a : Int) < (nr : Int) := by omega
  have ha0 : (0 : Int) ≤ (a : Int) := Int.natCast_nonneg a
  have hb1 : (b : Int) < (nr : Int) := by omega
  have hb00 : (0 : Int) ≤ (b : Int) := Int.natCast_nonneg b
  have hbl0 : (0 : Int) < (bl : Int) := by omega
  rw [hln] at hcA hcB
  have HB0 : Hid (Below w.heap.size w (w.alloc (.cells #[.string nm, .int .i64 ps, .int .i64 (nr : Int), .slice bA bl bc] 43))) := Lib.hid ((Below.refl _ _).alloc (Nat.le_refl _) _)
  have HF0 : Hid (Blk (w.alloc (.cells #[.string nm, .int .i64 ps, .int .i64 (nr : Int), .slice bA bl bc] 43)) w.heap.size 43 #[.string nm, .int .i64 ps, .int .i64 (nr : Int), .slice bA bl bc]) := Lib.hid (Blk.new _ _ _)
  have HCa := Lib.hid (And.intro hcA hcB)
  have hcA := (bcell HB0.out (block_lt_of_cell hcA)).trans hcA
  have hcB := (bcell HB0.out (block_lt_of_cell hcB)).trans hcB
  have hA1 := (bcell HB0.out (block_lt_of_cell hA1)).trans hA1
  have hB1 := (bcell HB0.out (block_lt_of_cell hB1)).trans hB1
  have hA2 := (bcell HB0.out (block_lt_of_cell hA2)).trans hA2
  have hB2 := (bcell HB0.out (block_lt_of_cell hB2)).trans hB2
  have HT : Hid (∀ i k blk, blocks[i]? = some blk → k < blk.list.length → clAt blocks (a : Int) (b : Int) i k = true ∨ clAt blocks (b : Int) (a : Int) i k = true → clashB blocks (a : Int) (b : Int) = true) := Lib.hid (fun i k blk hi hk h => clTo_hit hi hk h)
  obtain ⟨ea, hea⟩ : ∃ ea, atU blocks 0 0 (a : Int) = ea := ⟨_, rfl⟩
  obtain ⟨eb, heb⟩ : ∃ eb, atU blocks 0 0 (b : Int) = eb := ⟨_, rfl⟩
  rw [hea] at hA2
  rw [heb] at hB2
  have HE : Hid (clashB blocks (a : Int) (b : Int) = ((ea && eb) || clTo blocks (a : Int) (b : Int) blocks.length)) := Lib.hid (by unfold clashB; rw [hea, heb])
  have hla : (0 : Int) < ((lenR blocks 0 + 1 : Nat) : Int) := by omega
  generalize lenR blocks 0 + 1 = l0 at *
  clear hb hln hL hAi hBi hea heb
  go_enter Tryz.func44, Tryz.ntmps44
  go_upto_region 1 with fail
  generalize w.alloc (.cells #[.string nm, .int .i64 ps, .int .i64 (nr : Int), .slice bA bl bc] 43) = W0 at *
  go_cut [30] from 13 to 30 (fun s wx => s = .bool (ea && eb) ∧ wx = W0)
  case first =>
    cases ea
    · go_wp2_with fail
      go_meet
      exact ⟨rfl, rfl⟩
    · go_wp2_with fail
      go_meet
      exact ⟨rfl, rfl⟩
  case rest =>
    obtain ⟨rfl, rfl⟩ := hcut
    obtain ⟨eab, heab⟩ : ∃ eab, (ea && eb) = eab := ⟨_, rfl⟩
    rw [heab] at HE ⊢
    clear heab hcA hcB hA1 hB1 hA2 hB2 hla HCa
    cases eab with
    | true =>
      have HV : Hid (clashB blocks (a : Int) (b : Int) = true) := Lib.hid (by rw [HE.out]; rfl)
      go_wp2_with fail
      go_ret
      exact ⟨ret_bool HV.out.symm, HB0.out⟩
    | false =>
      have HB1 := HB0
      have HF1 := HF0
      clear HB0 HF0
      go_upto_region 4 with fail
      go_loopg [2, 3, 9] bl (fun gk ua ub i wx => ∃ q : Nat, q + gk = bl ∧ ua = .int .i64 (a : Int) ∧ ub = .int .i64 (b : Int) ∧ i = .int .i64 (q : Int) ∧ Hid (clTo blocks (a : Int) (b : Int) q = false) ∧ Hid (Below w.heap.size w wx) ∧ Hid (Blk wx w.heap.size 43 #[.string nm, .int .i64 ps, .int .i64 (nr : Int), .slice bA bl bc]))
      case atStart => exact ⟨0, by omega, rfl, rfl, rfl, Lib.hid rfl, HB1, HF1⟩
      case round =>
        obtain ⟨q, hq, rfl, rfl, rfl, HQ, HBq, HFq⟩ := hrel
        clear HB1 HF1
        have c3 := HFq.out.cell 3
        rcases gk with _ | nk
        · have hqt : ¬ (q : Int) < (bl : Int) := by omega
          have HV : Hid (clashB blocks (a : Int) (b : Int) = false) := Lib.hid (by rw [HE.out, Hln.out, ← show q = bl by omega, HQ.out]; rfl)
          go_wp2_with fail
          go_ret
          exact ⟨ret_bool HV.out.symm, HBq.out⟩
        · have hqt : (q : Int) < (bl : Int) := by omega
          have hq0 : (0 : Int) ≤ (q : Int) := Int.natCast_nonneg q
          have hql : q < bl := by omega
          obtain ⟨bb, bo, blk, pA, pc, lA, lc, tA, tc, rfl, hbb, hbq, _, p1, _, _, _, _, _, hli, _⟩ := BlksAt.one HBL.out hql
          obtain ⟨ll, hll⟩ : ∃ ll, blk.list.length = ll := ⟨_, rfl⟩
          rw [hll] at p1 hli
          have HLI := Lib.hid hli
          have Hbq := Lib.hid hbq
          have Hll := Lib.hid hll
          have hll47 : ll ≤ 140737488351232 := by
            obtain ⟨_, _, e, h1, h2⟩ := SlAt.form hli
            cases e
            omega
          have Hp1 := Lib.hid p1
          clear hbq hll hli p1
          go_upto_region 7 with fail
          go_loopg [2, 3, 10] ll (fun gk ua ub i wx => ∃ m : Nat, m + gk = ll ∧ ua = .int .i64 (a : Int) ∧ ub = .int .i64 (b : Int) ∧ i = .int .i64 (m : Int) ∧ Hid (clIn blocks (a : Int) (b : Int) q m = false) ∧ Hid (Below w.heap.size w wx) ∧ Hid (Blk wx w.heap.size 43 #[.string nm, .int .i64 ps, .int .i64 (nr : Int), .slice (some ⟨bb, bo, none⟩) bl bc]))
          case atStart => exact ⟨0, by omega, rfl, rfl, rfl, Lib.hid rfl, HBq, HFq⟩
          case round =>
            obtain ⟨m, hm, rfl, rfl, rfl, HM, HBm, HFm⟩ := hrel
            clear HBq HFq c3
            have c3 := HFm.out.cell 3
            have p1 := (bcell HBm.out hbb).trans Hp1.out
            rcases gk with _ | ok
            · have hmt : ¬ (m : Int) < (ll : Int) := by omega
              have HQ2 : Hid (clTo blocks (a : Int) (b : Int) (q + 1) = false) := Lib.hid (by
                rw [clTo_succ, HQ.out, lenR_some Hbq.out, Hll.out, ← show m = ll by omega, HM.out]
                rfl)
              go_wp2_with fail
              go_roundg nk
              case measure => omega
              case rel => exact ⟨q + 1, by omega, rfl, rfl, by go_num, HQ2, HBm, HFm⟩
            · have hmt : (m : Int) < (ll : Int) := by omega
              have hm0 : (0 : Int) ≤ (m : Int) := Int.natCast_nonneg m
              have hml : m < ll := by omega
              obtain ⟨ib, io, x, aA, ac, rfl, hib, hxm, i0, i1, i2, i3, i4, i5, i6, i7, hop⟩ := InssAt.one HLI.out hml
              have i0 := (bcell HBm.out hib).trans i0
              have i1 := (bcell HBm.out hib).trans i1
              have i2 := (bcell HBm.out hib).trans i2
              have i3 := (bcell HBm.out hib).trans i3
              have i4 := (bcell HBm.out hib).trans i4
              have i5 := (bcell HBm.out hib).trans i5
              have i6 := (bcell HBm.out hib).trans i6
              have i7 := (bcell HBm.out hib).trans i7
              have Hxm := Lib.hid hxm
              have Hop := Lib.hid hop
              have HB4 : Hid (Below w.heap.size w (wr.alloc (.cells #[.int .i64 x.op, .int .i64 x.dst, .bool x.a.reg, .int .i64 x.a.n, .bool x.b.reg, .int .i64 x.b.n, .int .i64 x.fn, .slice aA x.args.length ac] 69))) := Lib.hid (HBm.out.alloc HBm.out.size _)
              have HF4 := Lib.hid (HFm.out.alloc (.cells #[.int .i64 x.op, .int .i64 x.dst, .bool x.a.reg, .int .i64 x.a.n, .bool x.b.reg, .int .i64 x.b.n, .int .i64 x.fn, .slice aA x.args.length ac] 69))
              have HI4 := Lib.hid (Blk.new wr 69 #[.int .i64 x.op, .int .i64 x.dst, .bool x.a.reg, .int .i64 x.a.n, .bool x.b.reg, .int .i64 x.b.n, .int .i64 x.fn, .slice aA x.args.length ac])
              clear hxm hop
              go_upto_region 11 with fail
              generalize hgx : wr.heap.size = gx at *
              generalize wr.alloc (.cells #[.int .i64 x.op, .int .i64 x.dst, .bool x.a.reg, .int .i64 x.a.n, .bool x.b.reg, .int .i64 x.b.n, .int .i64 x.fn, .slice aA x.args.length ac] 69) = W4 at *
              clear i0 i1 i2 i3 i4 i5 i6 i7 c3 p1 hgx HBm HFm
              go_loopg [2, 3, 12] 2 (fun gk ua ub i wx => ∃ p xa xb : Nat, p + gk = 2 ∧ ua = .int .i64 (xa : Int) ∧ ub = .int .i64 (xb : Int) ∧ i = .int .i64 (p : Int) ∧ xa < nr ∧ xb < nr ∧
                Hid ((p = 0 ∧ xa = a ∧ xb = b) ∨ (p = 1 ∧ xa = b ∧ xb = a ∧ clAt blocks (a : Int) (b : Int) q m = false) ∨ (p = 2 ∧ xa = a ∧ xb = b ∧ clAt blocks (a : Int) (b : Int) q m = false ∧ clAt blocks (b : Int) (a : Int) q m = false)) ∧
                Hid (Below w.heap.size w wx) ∧ Hid (Blk wx w.heap.size 43 #[.string nm, .int .i64 ps, .int .i64 (nr : Int), .slice (some ⟨bb, bo, none⟩) bl bc]) ∧ Hid (Blk wx gx 69 #[.int .i64 x.op, .int .i64 x.dst, .bool x.a.reg, .int .i64 x.a.n, .bool x.b.reg, .int .i64 x.b.n, .int .i64 x.fn, .slice aA x.args.length ac]))
              case atStart => exact ⟨0, a, b, by omega, rfl, rfl, rfl, ha, hbn, Lib.hid (.inl ⟨rfl, rfl, rfl⟩), HB4, HF4, HI4⟩
              case round =>
                obtain ⟨p, xa, xb, hp, rfl, rfl, rfl, hxa, hxb, HK, HBp, HFp, HIp⟩ := hrel
                clear HB4 HF4 HI4
                rcases gk with _ | pk
                · have hpt : ¬ (p : Int) < 2 := by omega
                  obtain ⟨rfl, rfl, HN⟩ : xa = a ∧ xb = b ∧ Hid (clIn blocks (a : Int) (b : Int) q (m + 1) = false) := by
                    rcases HK.out with ⟨h, _⟩ | ⟨h, _⟩ | ⟨_, h1, h2, h3, h4⟩
                    · omega
                    · omega
                    · refine ⟨h1, h2, Lib.hid ?_⟩
                      rw [clIn_succ, HM.out, h3, h4]
                      rfl
                  go_wp2_with fail
                  go_roundg ok
                  case measure => omega
                  case rel => exact ⟨m + 1, by omega, rfl, rfl, by go_num, HN, HBp, HFp⟩
                · have hpt : (p : Int) < 2 := by omega
                  have hxa0 : (0 : Int) ≤ (xa : Int) := Int.natCast_nonneg xa
                  have hxb0 : (0 : Int) ≤ (xb : Int) := Int.natCast_nonneg xb
                  have hxb1 : (xb : Int) < (nr : Int) := by omega
                  obtain ⟨g0', gX, cX, e0, hcX, hXi⟩ := HL.out.at_ hxb
                  injection e0 with e0
                  injection e0 with e0
                  subst e0
                  obtain ⟨gX1, gX2, rfl, hX1, hX2⟩ := hXi q (by rw [Hln.out]; exact hql)
                  have hlq : lenR blocks q = ll := by rw [lenR_some Hbq.out, Hll.out]
                  rw [hlq] at hX1 hX2
                  have hX2 := hX2 (m + 1) (by omega)
                  rw [Hln.out] at hcX
                  have hcX := (bcell HBp.out (block_lt_of_cell hcX)).trans hcX
                  have hX1 := (bcell HBp.out (block_lt_of_cell hX1)).trans hX1
                  have hX2 := (bcell HBp.out (block_lt_of_cell hX2)).trans hX2
                  obtain ⟨av, hav⟩ : ∃ av, atU blocks q (m + 1) (xb : Int) = av := ⟨_, rfl⟩
                  rw [hav] at hX2
                  have HCl : Hid (clAt blocks (xa : Int) (xb : Int) q m = (decide (x.dst = (xa : Int)) && (av && (decide (x.op ≠ 1) || !takesU x (xb : Int))))) := Lib.hid (by rw [clAt_some Hbq.out Hxm.out, hav])
                  have HTk := Lib.hid (Takes_any x.op x.dst x.a.reg x.b.reg x.a.n x.b.n x.fn aA x.args.length ac x.args (xb : Int) wr (Hop.out.move HBp.out.size (kept_of HBp.out (Nat.le_refl _))))
                  have x0 := HIp.out.cell 0
                  have x1 := HIp.out.cell 1
                  have x2 := HIp.out.cell 2
                  have x3 := HIp.out.cell 3
                  have x4 := HIp.out.cell 4
                  have x5 := HIp.out.cell 5
                  have x6 := HIp.out.cell 6
                  have x7 := HIp.out.cell 7
                  have hm63 : (m : Int) + 1 ≤ 9223372036854775807 := by omega
                  have hm1 : (m : Int) + 1 < (ll : Int) + 1 := by omega
                  have hm2 : (0 : Int) ≤ (m : Int) + 1 := by omega
                  have hm3 : ((m : Int) + 1).toNat = m + 1 := by omega
                  clear hav hXi hlq
                  go_upto_region 13 with fail
                  go_cut [89] from 62 to 89 (fun s wx => s = .bool (clAt blocks (xa : Int) (xb : Int) q m) ∧ Hid (Below w.heap.size w wx) ∧ Hid (Blk wx w.heap.size 43 #[.string nm, .int .i64 ps, .int .i64 (nr : Int), .slice (some ⟨bb, bo, none⟩) bl bc]) ∧ Hid (Blk wx gx 69 #[.int .i64 x.op, .int .i64 x.dst, .bool x.a.reg, .int .i64 x.a.n, .bool x.b.reg, .int .i64 x.b.n, .int .i64 x.fn, .slice aA x.args.length ac]))
                  case first =>
                    by_cases hd : x.dst = (xa : Int)
                    · have hdb : (x.dst == (xa : Int)) = true := by simpa using hd
                      rw [decide_eq_true hd] at HCl
                      clear hd
                      cases av with
                      | false =>
                        have HV : Hid (clAt blocks (xa : Int) (xb : Int) q m = false) := Lib.hid (by rw [HCl.out]; rfl)
                        go_wp2_with fail
                        go_meet
                        exact ⟨ret_bool' HV.out.symm, HBp, HFp, HIp⟩
                      | true =>
                        by_cases h1 : x.op = 1
                        · have h1b : (x.op != 1) = false := by simpa using h1
                          have HV : Hid (clAt blocks (xa : Int) (xb : Int) q m = !takesU x (xb : Int)) := Lib.hid (by rw [HCl.out, decide_eq_false (by simpa using h1)]; simp)
                          clear h1
                          go_wp2_with fail
                          refine HTk.out.mono ?_
                          rintro e w5 ⟨rfl, hb5⟩
                          have HB5 := Lib.hid (HBp.out.trans (hb5.mono HBp.out.size))
                          have HF5 := Lib.hid (HFp.out.below hb5 HFp.out.lt)
                          have HI5 := Lib.hid (HIp.out.below hb5 HIp.out.lt)
                          obtain ⟨tk, htk⟩ : ∃ tk, takesU x (xb : Int) = tk := ⟨_, rfl⟩
                          rw [htk] at HV ⊢
                          clear htk hb5
                          go_wp2_with fail
                          go_meet
                          exact ⟨ret_bool' HV.out.symm, HB5, HF5, HI5⟩
                        · have h1b : (x.op != 1) = true := by simpa using h1
                          have HV : Hid (clAt blocks (xa : Int) (xb : Int) q m = true) := Lib.hid (by rw [HCl.out, decide_eq_true h1]; rfl)
                          clear h1
                          go_wp2_with fail
                          go_meet
                          exact ⟨ret_bool' HV.out.symm, HBp, HFp, HIp⟩
                    · have hdb : (x.dst == (xa : Int)) = false := by simpa using hd
                      have HV : Hid (clAt blocks (xa : Int) (xb : Int) q m = false) := Lib.hid (by rw [HCl.out, decide_eq_false hd]; rfl)
                      clear hd
                      go_wp2_with fail
                      go_meet
                      exact ⟨ret_bool' HV.out.symm, HBp, HFp, HIp⟩
                  case rest =>
                    obtain ⟨rfl, HB5, HF5, HI5⟩ := hcut
                    clear HBp HFp HIp hcX hX1 hX2 x0 x1 x2 x3 x4 x5 x6 x7 HCl HTk
                    obtain ⟨cv, hcv⟩ : ∃ cv, clAt blocks (xa : Int) (xb : Int) q m = cv := ⟨_, rfl⟩
                    rw [hcv]
                    cases cv with
                    | true =>
                      have HV : Hid (clashB blocks (a : Int) (b : Int) = true) := Lib.hid (HT.out q m blk Hbq.out (by rw [Hll.out]; exact hml) (by
                        rcases HK.out with ⟨_, h1, h2⟩ | ⟨_, h1, h2, _⟩ | ⟨h, _⟩
                        · rw [h1, h2] at hcv; exact .inl hcv
                        · rw [h1, h2] at hcv; exact .inr hcv
                        · omega))
                      clear hcv
                      go_wp2_with fail
                      go_ret
                      exact ⟨ret_bool HV.out.symm, HB5.out⟩
                    | false =>
                      have HK5 : Hid ((p + 1 = 0 ∧ xb = a ∧ xa = b) ∨ (p + 1 = 1 ∧ xb = b ∧ xa = a ∧ clAt blocks (a : Int) (b : Int) q m = false) ∨ (p + 1 = 2 ∧ xb = a ∧ xa = b ∧ clAt blocks (a : Int) (b : Int) q m = false ∧ clAt blocks (b : Int) (a : Int) q m = false)) := Lib.hid (by
                        rcases HK.out with ⟨h, h1, h2⟩ | ⟨h, h1, h2, h3⟩ | ⟨h, _⟩
                        · rw [h1, h2] at hcv; exact .inr (.inl ⟨by omega, h2, h1, hcv⟩)
                        · rw [h1, h2] at hcv; exact .inr (.inr ⟨by omega, h2, h1, h3, hcv⟩)
                        · omega)
                      clear hcv
                      go_wp2_with fail
                      go_roundg pk
                      case measure => omega
                      case rel => exact ⟨p + 1, xb, xa, by omega, rfl, rfl, by go_num, hxb, hxa, Lib.hid (by
                        rcases HK5.out with ⟨h, _⟩ | ⟨h, h1, h2, h3⟩ | ⟨h, h1, h2, h3, h4⟩
                        · omega
                        · exact .inr (.inl ⟨h, h1, h2, h3⟩)
                        · exact .inr (.inr ⟨h, h1, h2, h3, h4⟩)), HB5, HF5, HI5⟩
end Go.Proofs.YtiknhfbkphoceaaGreatDoor
