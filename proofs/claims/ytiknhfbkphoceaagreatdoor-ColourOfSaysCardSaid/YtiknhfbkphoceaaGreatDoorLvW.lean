/-
  Several texts in one (LvU LvV LvW): what each proves stands at its theorems.
  Conditions: as the theorems say.
-/
import Derived.Test.YtiknhfbkphoceaaGreatDoorLvT
namespace Go.Proofs.YtiknhfbkphoceaaGreatDoor
open Go.RowKit

theorem evF_mem : ∀ (l : List InsU) (E : Int → Bool) (e : InsU × (Int → Bool)), e ∈ evF l.reverse E ↔ ∃ j x, l[j]? = some x ∧ e = (x, upTo (l.drop (j + 1)) E)
  | [], E, e => by simp [evF]
  | y :: l, E, e => by
    rw [List.reverse_cons, evF_snoc, List.mem_append, evF_mem l E e, backS_all]
    simp only [List.mem_singleton]
    constructor
    · rintro (⟨j, x, h1, h2⟩ | h)
      · exact ⟨j + 1, x, by simpa using h1, by simpa using h2⟩
      · exact ⟨0, y, rfl, by simpa using h⟩
    · rintro ⟨j, x, h1, h2⟩
      rcases j with _ | j
      · simp only [List.getElem?_cons_zero, Option.some.injEq] at h1
        subst h1
        exact .inr (by simpa using h2)
      · exact .inl ⟨j, x, by simpa using h1, by simpa using h2⟩
/-- Is a register live across a call, at this place? -/
noncomputable def acrossAt (bs : List BlkU) (r : Int) (i j : Nat) : Bool := match bs[i]? with
  | some b => match b.list[j]? with
    | some x => decide (x.op = 20) && (decide (r ≠ x.dst) && atU bs i (j + 1) r)
    | none => false
  | none => false
theorem acrossS_iff (bs : List BlkU) (r : Int) : acrossS (evAll bs bs.length) r = true ↔ ∃ i j, acrossAt bs r i j = true := by
  unfold acrossS
  rw [List.any_eq_true]
  constructor
  · rintro ⟨e, he, h⟩
    unfold evAll at he
    rw [List.take_length] at he
    obtain ⟨_, hm, he⟩ := List.mem_flatten.1 he
    obtain ⟨b, hb, rfl⟩ := List.mem_map.1 hm
    obtain ⟨i, hi⟩ := List.getElem?_of_mem hb
    obtain ⟨j, x, hx, rfl⟩ := (evF_mem _ _ _).1 he
    refine ⟨i, j, ?_⟩
    unfold acrossAt
    rw [hi]
    simp only [hx]
    rw [atU_at hi]
    exact h
  · rintro ⟨i, j, h⟩
    unfold acrossAt at h
    split at h
    · rename_i b hb
      split at h
      · rename_i x hx
        refine ⟨(x, upTo (b.list.drop (j + 1)) (endU b (inU bs))), ?_, ?_⟩
        · unfold evAll
          rw [List.take_length]
          exact List.mem_flatten.2 ⟨evB bs b, List.mem_map_of_mem (List.mem_of_getElem? hb), (evF_mem _ _ _).2 ⟨j, x, hx, rfl⟩⟩
        · rw [atU_at hb] at h
          exact h
      · cases h
    · cases h
/-- .. at one of the first places. -/
noncomputable def acrossIn (bs : List BlkU) (r : Int) (i : Nat) (k : Nat) : Bool := (List.range k).any fun j => acrossAt bs r i j
noncomputable def acrossTo (bs : List BlkU) (r : Int) (i : Nat) : Bool := (List.range i).any fun i' => acrossIn bs r i' (lenR bs i')
theorem acrossIn_succ (bs : List BlkU) (r : Int) (i k : Nat) : acrossIn bs r i (k + 1) = (acrossIn bs r i k || acrossAt bs r i k) := by
  unfold acrossIn
  rw [List.range_succ, List.any_append]
  simp
theorem acrossTo_succ (bs : List BlkU) (r : Int) (i : Nat) : acrossTo bs r (i + 1) = (acrossTo bs r i || acrossIn bs r i (lenR bs i)) := by
  unfold acrossTo
  rw [List.range_succ, List.any_append]
  simp
theorem acrossTo_all (bs : List BlkU) (r : Int) : acrossTo bs r bs.length = acrossS (evAll bs bs.length) r := by
  rw [Bool.eq_iff_iff, acrossS_iff]
  unfold acrossTo acrossIn
  simp only [List.any_eq_true, List.mem_range]
  constructor
  · rintro ⟨i, _, j, _, h⟩
    exact ⟨i, j, h⟩
  · rintro ⟨i, j, h⟩
    have h' := h
    unfold acrossAt at h
    split at h
    · rename_i b hb
      split at h
      · rename_i x hx
        exact ⟨i, (List.getElem?_eq_some_iff.1 hb).1, j, by rw [lenR_some hb]; exact (List.getElem?_eq_some_iff.1 hx).1, h'⟩
      · cases h
    · cases h
end Go.Proofs.YtiknhfbkphoceaaGreatDoor
namespace Go.Proofs.YtiknhfbkphoceaaGreatDoor
open Go.RowKit

set_option maxRecDepth 100000 in
set_option maxHeartbeats 8000000 in
theorem RAcross_any (gv fv : Value) (gs : List Glob) (fs : List FunU) (k : Int) (w : World) (hk : I64 k) (hu : UnitAt w w.heap.size gv fv gs fs) :
    Calls Tryz.prog 20 #[.agg #[gv, fv], .int .i64 k] w (IntsPost w (clashF gs fs k) (acrossF gs fs k)) := by
  have HU := Lib.hid hu
  obtain ⟨A, c, rfl, hl1, hl2⟩ := SlAt.form hu.funs
  obtain ⟨l, hl⟩ : ∃ l, fs.length = l := ⟨_, rfl⟩
  rw [hl] at HU hl1 ⊢
  have Hl := Lib.hid hl
  have HP : Hid (∀ e w', (∃ v, e = .returned (.tuple #[v, .agg #[.int .i64 (clashF gs fs k).1, .int .i64 (clashF gs fs k).2]]) ∧ OwnInts w' w.heap.size v (acrossF gs fs k) ∧ Below w.heap.size w w') → IntsPost w (clashF gs fs k) (acrossF gs fs k) e w') := Lib.hid fun _ _ h => h
  generalize IntsPost w (clashF gs fs k) (acrossF gs fs k) = PE at *
  have Hk : Hid (I64 k) := Lib.hid hk
  have HW0 : Hid (Below w.heap.size w ((w.alloc (.cells #[gv, .slice A l c] 25)).alloc (.cells #[.int .i64 0, .int .i64 0] 28))) := Lib.hid (((Below.refl _ _).alloc (Nat.le_refl _) _).alloc (by simp) _)
  have HC0 : Hid (Blk ((w.alloc (.cells #[gv, .slice A l c] 25)).alloc (.cells #[.int .i64 0, .int .i64 0] 28)) w.heap.size 25 #[gv, .slice A l c]) := Lib.hid ((Blk.new w _ _).alloc _)
  have HX0 : Hid (Blk ((w.alloc (.cells #[gv, .slice A l c] 25)).alloc (.cells #[.int .i64 0, .int .i64 0] 28)) (w.heap.size + 1) 28 #[.int .i64 0, .int .i64 0]) := Lib.hid (by simpa using Blk.new (w.alloc (.cells #[gv, .slice A l c] 25)) 28 #[.int .i64 0, .int .i64 0])
  clear hu hk hl
  go_enter Tryz.func20, Tryz.ntmps20
  go_upto_region 1 with fail
  generalize (w.alloc (.cells #[gv, .slice A l c] 25)).alloc (.cells #[.int .i64 0, .int .i64 0] 28) = W0 at *
  generalize hg1 : w.heap.size + 1 = g1 at *
  have c0 := HC0.out.cell 0
  have c1 := HC0.out.cell 1
  have HU0 := Lib.hid (HU.out.later HW0.out)
  go_wp2_with fail
  refine (RFault_any gv _ gs fs k W0 Hk.out HU0.out).mono ?_
  rintro e W1 ⟨rfl, hb1⟩
  obtain ⟨uc, ua, hun⟩ : ∃ uc ua, clashF gs fs k = (uc, ua) := ⟨_, _, rfl⟩
  rw [hun]
  have Hun := Lib.hid hun
  clear hun
  have HB1 : Hid (Below w.heap.size w W1) := Lib.hid (HW0.out.trans (hb1.mono HW0.out.size))
  have HC1 := Lib.hid (HC0.out.below hb1 HC0.out.lt)
  have HX1 := Lib.hid (HX0.out.below hb1 HX0.out.lt)
  clear hb1 c0 c1 HU0 HC0 HX0 HW0
  have x0 := HX1.out.cell 0
  have x1 := HX1.out.cell 1
  have hfz := HX1.out.frozen 0
  have hfz1 := HX1.out.frozen 1
  have hgl := HX1.out.lt
  have hg0 := HC1.out.lt
  have hul : w.heap.size ≠ g1 := by omega
  have Hlg : Hid (w.heap.size ≤ g1) := Lib.hid (by omega)
  clear hg1
  by_cases h0 : uc = 0
  · subst h0
    have hcz := clashF_zero (gs := gs) (fs := fs) (k := k) (by rw [Hun.out])
    obtain rfl : ua = 0 := by
      have := hcz.1
      rw [Hun.out] at this
      injection this
    obtain ⟨f, hf, hk0, hk1, hph, hho, hbo⟩ := hcz.2.2
    obtain ⟨n, rfl⟩ : ∃ n : Nat, k = (n : Int) := ⟨k.toNat, by omega⟩
    have hnl : n < l := by rw [Hl.out] at hk1; omega
    obtain ⟨fb, fo, f', bA, bc, rfl, hfb, hfn, f0, f1, f2, f3, hblw⟩ := FunsAt.one HU.out.funs hnl
    obtain rfl : f = f' := by
      rw [Int.toNat_natCast] at hf
      rw [hf] at hfn
      exact Option.some.inj hfn
    obtain ⟨bl, hbl2⟩ : ∃ bl, f.blocks.length = bl := ⟨_, rfl⟩
    obtain ⟨nr, hnr⟩ : ∃ nr : Nat, f.regs = (nr : Int) := ⟨f.regs.toNat, by have := hho.p0; have := hho.r0; omega⟩
    have hnr1 : nr ≤ 100 := by have := hho.r1; omega
    rw [hbl2] at f3 hblw
    rw [hnr] at f2
    have Hf0 := Lib.hid (And.intro f0 (And.intro f1 (And.intro f2 f3)))
    have Hfb := Lib.hid hfb
    have HBL := Lib.hid hblw
    have HE : Hid (acrossF gs fs (n : Int) = listS nr (acrossS (evAll f.blocks f.blocks.length))) := Lib.hid (by
      unfold acrossF
      rw [if_neg (by rw [Hun.out]; simp), hf]
      show listS f.regs.toNat _ = _
      rw [hnr]
      simp)
    have hbl40 : bl ≤ 40 := by rw [← hbl2]; exact hho.b1
    have HTo : Hid (∀ b ∈ f.blocks, ∀ t ∈ b.to, 0 ≤ t ∧ t < (f.blocks.length : Int)) := Lib.hid (fun b hb t ht => by have := (hbo.ends b hb).to t ht; omega)
    have Hbl := Lib.hid hbl2
    have hn1 : (n : Int) < (l : Int) := by omega
    have hz1 := HB1.out.size
    have HB2 : Hid (Below w.heap.size w ((W1.alloc (.cells #[.int .i64 0, .int .i64 0] 28)).alloc (.cells #[.string f.name, .int .i64 f.params, .int .i64 (nr : Int), .slice bA bl bc] 43))) := Lib.hid ((HB1.out.alloc hz1 _).alloc (by simp; omega) _)
    have HC2 := Lib.hid ((HC1.out.alloc (.cells #[.int .i64 0, .int .i64 0] 28)).alloc (.cells #[.string f.name, .int .i64 f.params, .int .i64 (nr : Int), .slice bA bl bc] 43))
    have HX2 := Lib.hid ((HX1.out.alloc (.cells #[.int .i64 0, .int .i64 0] 28)).alloc (.cells #[.string f.name, .int .i64 f.params, .int .i64 (nr : Int), .slice bA bl bc] 43))
    have HF2 : Hid (Blk ((W1.alloc (.cells #[.int .i64 0, .int .i64 0] 28)).alloc (.cells #[.string f.name, .int .i64 f.params, .int .i64 (nr : Int), .slice bA bl bc] 43)) (W1.heap.size + 1) 43 #[.string f.name, .int .i64 f.params, .int .i64 (nr : Int), .slice bA bl bc]) := Lib.hid (by
      have h := Blk.new (W1.alloc (.cells #[.int .i64 0, .int .i64 0] 28)) 43 #[.string f.name, .int .i64 f.params, .int .i64 (nr : Int), .slice bA bl bc]
      rw [World.size_alloc] at h
      exact h)
    have hfb1 : fb < W1.heap.size := Nat.lt_of_lt_of_le hfb HB1.out.size
    have f0 := (bcell HB1.out hfb).trans f0
    have f1 := (bcell HB1.out hfb).trans f1
    have f2 := (bcell HB1.out hfb).trans f2
    have f3 := (bcell HB1.out hfb).trans f3
    have c1 := HC1.out.cell 1
    clear hcz hf hk0 hk1 hph hho hbo hfn hblw hbl2 hnr Hf0 Hfb
    go_upto_region 5 with fail
    generalize (W1.alloc (.cells #[.int .i64 0, .int .i64 0] 28)).alloc (.cells #[.string f.name, .int .i64 f.params, .int .i64 (nr : Int), .slice bA bl bc] 43) = W2 at *
    generalize hgf : W1.heap.size + 1 = gf at *
    clear x0 x1 hfz hfz1 HB1 HC1 HX1 hgl hg0 c1 f0 f1 f2 f3
    clear hul
    go_wp2_with fail
    go_loopg [8, 9] nr (fun gk s i wr => ∃ j : Nat, j + gk = nr ∧ i = .int .i64 (j : Int) ∧ Hid (OwnInts wr w.heap.size s (listS j (acrossS (evAll f.blocks f.blocks.length)))) ∧ Hid (Below w.heap.size w wr) ∧ Hid (Blk wr gf 43 #[.string f.name, .int .i64 f.params, .int .i64 (nr : Int), .slice bA bl bc]) ∧ Hid (Blk wr g1 28 #[.int .i64 0, .int .i64 0]))
    case atStart => exact ⟨0, by omega, rfl, Lib.hid (OwnInts.nil _ _), HB2, HF2, HX2⟩
    case round =>
      obtain ⟨j, hj, rfl, HO, HB, HF, HX⟩ := hrel
      have q0 := HF.out.cell 0
      have q1 := HF.out.cell 1
      have q2 := HF.out.cell 2
      have q3 := HF.out.cell 3
      clear HB2 HF2 HX2
      rcases gk with _ | mk
      · have hjt : ¬ (j : Int) < (nr : Int) := by omega
        have x0 := HX.out.cell 0
        have x1 := HX.out.cell 1
        have z0 := HX.out.frozen 0
        have z1 := HX.out.frozen 1
        have hjn : j = nr := by omega
        subst hjn
        go_wp2_with fail
        refine end_tmp_cell rfl rfl (HX.out.set2 _ _) Tryz.underlying28 rfl (by kernel_rfl) rfl (HP.out _ _ ⟨_, by rw [Hun.out], ?_, ?_⟩)
        · rw [HE.out]
          exact row_far (row_far HO.out HX.out (by decide) _) (HX.out.set_ 0 _) (by decide) _
        · exact (HB.out.setCell Hlg.out _).setCell Hlg.out _
      · have hjt : (j : Int) < (nr : Int) := by omega
        have hj0 : (0 : Int) ≤ (j : Int) := Int.natCast_nonneg j
        have HLr := Lib.hid (LiveReg_any f.name f.params (nr : Int) bA bl bc f.blocks (j : Int) wr (HBL.out.move HB.out.size (kept_of HB.out (Nat.le_refl _))) hbl40 HTo.out)
        go_wp2_with fail
        refine HLr.out.mono ?_
        rintro e w3 ⟨v, rows, rfl, hrows, hrl, hrn, hb3⟩
        obtain ⟨vA, vc, hvf⟩ := hrows.form
        subst hvf
        rw [hrl, Hbl.out] at hrows ⊢
        have HB3 := Lib.hid (HB.out.trans (hb3.mono HB.out.size))
        have HF3 := Lib.hid (HF.out.below hb3 HF.out.lt)
        have HX3 := Lib.hid (HX.out.below hb3 HX.out.lt)
        have HO3 := Lib.hid (HO.out.below hb3 rfl)
        have HRw := Lib.hid hrows
        have HRn := Lib.hid hrn
        clear hb3 hrows hrn hrl HO HB HF HX HLr q0 q1 q2 q3
        go_wp2_with fail
        go_loopg [11, 12] bl (fun gk is i wx => ∃ q : Nat, q + gk = bl ∧ i = .int .i64 (q : Int) ∧ is = .bool (acrossTo f.blocks (j : Int) q) ∧ Hid (Below w3.heap.size w3 wx))
        case atStart => exact ⟨0, by omega, rfl, rfl, Lib.hid (Below.refl _ _)⟩
        case round =>
          obtain ⟨q, hq, rfl, rfl, HBq⟩ := hrel
          have c3 := (HF3.out.below HBq.out HF3.out.lt).cell 3
          rcases gk with _ | nk
          · have hqt : ¬ (q : Int) < (bl : Int) := by omega
            have HQa : Hid (acrossTo f.blocks (j : Int) q = acrossS (evAll f.blocks f.blocks.length) (j : Int)) := Lib.hid (by rw [← acrossTo_all, Hbl.out, show q = bl by omega])
            have HOq := Lib.hid (HO3.out.below HBq.out rfl)
            have HBw := Lib.hid (HB3.out.trans (HBq.out.mono HB3.out.size))
            have HFq := Lib.hid (HF3.out.below HBq.out HF3.out.lt)
            have HXq := Lib.hid (HX3.out.below HBq.out HX3.out.lt)
            have hll := listS_len j (acrossS (evAll f.blocks f.blocks.length))
            have hz := HBw.out.size
            obtain ⟨e0, he0⟩ : ∃ e0, acrossTo f.blocks (j : Int) q = e0 := ⟨_, rfl⟩
            rw [he0] at HQa ⊢
            clear he0
            cases e0 with
            | false =>
              have HO4 : Hid (OwnInts wr w.heap.size u8 (listS (j + 1) (acrossS (evAll f.blocks f.blocks.length)))) := Lib.hid (by rw [listS_succ, ← HQa.out, if_neg (by simp)]; exact HOq.out)
              go_wp2_with fail
              go_roundg mk
              case measure => omega
              case rel => exact ⟨j + 1, by omega, by go_num, HO4, HBw, HFq, HXq⟩
            | true =>
              have HE4 : Hid (listS (j + 1) (acrossS (evAll f.blocks f.blocks.length)) = listS j (acrossS (evAll f.blocks f.blocks.length)) ++ [(j : Int)]) := Lib.hid (by rw [listS_succ, ← HQa.out, if_pos rfl])
              go_wp2_with (at_builtin; refine app_one rfl _ _ 26 3 rfl (.int .i64 0) 1 8 Tryz.underlying26 infoInt rfl (by decide) (by decide) w.heap.size _ _ _ (by rfl) HOq.out _ [.int .i64 (j : Int)] (by rfl) rfl (fun x hx => by simp at hx; subst hx; rfl) rfl (by omega) hz ?_; intro v4 w4 HA4)
              have HO4 : Hid (OwnInts w4 w.heap.size v4 (listS (j + 1) (acrossS (evAll f.blocks f.blocks.length)))) := Lib.hid (by
                rw [HE4.out]
                unfold OwnInts
                rw [List.length_append, List.map_append]
                exact HA4.out.own)
              have HB4 := Lib.hid (HBw.out.trans HA4.out.below)
              have HF4 := Lib.hid (HA4.out.blk HOq.out HFq.out (by decide))
              have HX4 := Lib.hid (HA4.out.blk HOq.out HXq.out (by decide))
              go_roundg mk
              case measure => omega
              case rel => exact ⟨j + 1, by omega, by go_num, HO4, HB4, HF4, HX4⟩
          · have hqt : (q : Int) < (bl : Int) := by omega
            have hq0 : (0 : Int) ≤ (q : Int) := Int.natCast_nonneg q
            have hql : q < bl := by omega
            obtain ⟨bb, bo, b, pA, pc, lA, lc, tA, tc, rfl, hbb, hbq, _, p1, _, _, _, _, _, hli, _⟩ := BlksAt.one HBL.out hql
            have p1 := (bcell HB3.out hbb).trans p1
            have hbb3 : bb < w3.heap.size := Nat.lt_of_lt_of_le hbb HB3.out.size
            have p1w := (bcell HBq.out hbb3).trans p1
            obtain ⟨ll, hll⟩ : ∃ ll, b.list.length = ll := ⟨_, rfl⟩
            rw [hll] at p1 p1w hli
            have HLI := Lib.hid hli
            have Hbq := Lib.hid hbq
            have Hll : Hid (lenR f.blocks q = ll) := Lib.hid (by rw [lenR_some hbq, hll])
            have hll47 : ll ≤ 140737488351232 := by
              obtain ⟨_, _, e, h1, h2⟩ := SlAt.form hli
              cases e
              omega
            have Hp1 := Lib.hid p1
            clear hbq hll hli p1
            obtain ⟨e0, he0⟩ : ∃ e0, acrossTo f.blocks (j : Int) q = e0 := ⟨_, rfl⟩
            have He0 := Lib.hid he0
            rw [he0]
            clear he0
            go_wp2_with fail
            go_loopg [11, 13] ll (fun gk is i wx => ∃ m : Nat, m + gk = ll ∧ i = .int .i64 (m : Int) ∧ is = .bool (e0 || acrossIn f.blocks (j : Int) q m) ∧ Hid (Below w3.heap.size w3 wx))
            case atStart => exact ⟨0, by omega, rfl, by simp [acrossIn], HBq⟩
            case round =>
              obtain ⟨m, hm, rfl, rfl, HBm⟩ := hrel
              clear c3 p1w
              have c3 := (HF3.out.below HBm.out HF3.out.lt).cell 3
              have p1 := (bcell HBm.out hbb3).trans Hp1.out
              rcases gk with _ | ok
              · have hmt : ¬ (m : Int) < (ll : Int) := by omega
                have HA : Hid ((e0 || acrossIn f.blocks (j : Int) q m) = acrossTo f.blocks (j : Int) (q + 1)) := Lib.hid (by
                  rw [acrossTo_succ, He0.out, Hll.out, show m = ll by omega])
                go_wp2_with fail
                go_roundg nk
                case measure => omega
                case rel => exact ⟨q + 1, by omega, by go_num, ret_bool' HA.out, HBm⟩
              · have hmt : (m : Int) < (ll : Int) := by omega
                have hm0 : (0 : Int) ≤ (m : Int) := Int.natCast_nonneg m
                obtain ⟨ib, io, x, aA, ac, rfl, hib, hxm, i0, i1, i2, i3, i4, i5, i6, i7, _⟩ := InssAt.one HLI.out (show m < ll by omega)
                have i0 := (bcell HBm.out (Nat.lt_of_lt_of_le hib HB3.out.size)).trans ((bcell HB3.out hib).trans i0)
                have i1 := (bcell HBm.out (Nat.lt_of_lt_of_le hib HB3.out.size)).trans ((bcell HB3.out hib).trans i1)
                have i2 := (bcell HBm.out (Nat.lt_of_lt_of_le hib HB3.out.size)).trans ((bcell HB3.out hib).trans i2)
                have i3 := (bcell HBm.out (Nat.lt_of_lt_of_le hib HB3.out.size)).trans ((bcell HB3.out hib).trans i3)
                have i4 := (bcell HBm.out (Nat.lt_of_lt_of_le hib HB3.out.size)).trans ((bcell HB3.out hib).trans i4)
                have i5 := (bcell HBm.out (Nat.lt_of_lt_of_le hib HB3.out.size)).trans ((bcell HB3.out hib).trans i5)
                have i6 := (bcell HBm.out (Nat.lt_of_lt_of_le hib HB3.out.size)).trans ((bcell HB3.out hib).trans i6)
                have i7 := (bcell HBm.out (Nat.lt_of_lt_of_le hib HB3.out.size)).trans ((bcell HB3.out hib).trans i7)
                obtain ⟨g0, g, rfl, hg, s0, _, hbk⟩ := HRw.out.cell hql
                have hgl := HRn.out q g hg
                obtain ⟨ga, gb⟩ := g
                simp only [rowV] at s0 hbk hgl
                have hgb : gb = ll + 1 := by rw [hgl, Hll.out]
                subst hgb
                have hg03 : g0 < w3.heap.size := block_lt_of_cell s0
                have hAt : acrossAt f.blocks (j : Int) q m = (decide (x.op = 20) && (decide ((j : Int) ≠ x.dst) && atU f.blocks q (m + 1) (j : Int))) := by
                  unfold acrossAt
                  rw [Hbq.out]
                  simp only [hxm]
                have HA : Hid ((e0 || acrossIn f.blocks (j : Int) q (m + 1)) = ((e0 || acrossIn f.blocks (j : Int) q m) || (decide (x.op = 20) && (decide ((j : Int) ≠ x.dst) && atU f.blocks q (m + 1) (j : Int))))) := Lib.hid (by rw [acrossIn_succ, hAt, Bool.or_assoc])
                have HB4 : Hid (Below w3.heap.size w3 (wr.alloc (.cells #[.int .i64 x.op, .int .i64 x.dst, .bool x.a.reg, .int .i64 x.a.n, .bool x.b.reg, .int .i64 x.b.n, .int .i64 x.fn, .slice aA x.args.length ac] 69))) := Lib.hid (HBm.out.alloc HBm.out.size _)
                have HI4 := Lib.hid (Blk.new wr 69 #[.int .i64 x.op, .int .i64 x.dst, .bool x.a.reg, .int .i64 x.a.n, .bool x.b.reg, .int .i64 x.b.n, .int .i64 x.fn, .slice aA x.args.length ac])
                have hib3 : ib < wr.heap.size := Nat.lt_of_lt_of_le (Nat.lt_of_lt_of_le hib HB3.out.size) HBm.out.size
                have Hbk := Lib.hid hbk
                clear hg hgl hAt hxm hbk
                go_upto_region 18 with fail
                clear i0 i1 i2 i3 i4 i5 i6 i7 c3 p1
                generalize wr.alloc (.cells #[.int .i64 x.op, .int .i64 x.dst, .bool x.a.reg, .int .i64 x.a.n, .bool x.b.reg, .int .i64 x.b.n, .int .i64 x.fn, .slice aA x.args.length ac] 69) = W4 at *
                have i0 := HI4.out.cell 0
                have i1 := HI4.out.cell 1
                have s0 := (bcell HB4.out hg03).trans s0
                have b0 := ((Hbk.out.below HB4.out Hbk.out.lt).cell (m + 1)).trans (boolsT_at (rowB_at (f := fun k => atU f.blocks q k (j : Int)) (show m + 1 < ll + 1 by omega)))
                have hm63 : (m : Int) + 1 ≤ 9223372036854775807 := by omega
                have hm1 : (m : Int) + 1 < (ll : Int) + 1 := by omega
                have hm2 : (0 : Int) ≤ (m : Int) + 1 := by omega
                have hm3 : ((m : Int) + 1).toNat = m + 1 := by omega
                obtain ⟨e1, he1⟩ : ∃ e1, (e0 || acrossIn f.blocks (j : Int) q m) = e1 := ⟨_, rfl⟩
                obtain ⟨at1, hat1⟩ : ∃ at1, atU f.blocks q (m + 1) (j : Int) = at1 := ⟨_, rfl⟩
                simp only [hat1] at b0
                rw [hat1, he1] at HA
                rw [he1]
                clear hat1 he1
                cases e1 with
                | true =>
                  have HV : Hid ((e0 || acrossIn f.blocks (j : Int) q (m + 1)) = true) := Lib.hid (by rw [HA.out]; rfl)
                  go_wp2_with fail
                  go_roundg ok
                  case measure => omega
                  case rel => exact ⟨m + 1, by omega, by go_num, ret_bool' HV.out.symm, HB4⟩
                | false =>
                  by_cases h20 : x.op = 20
                  · have h20b : (x.op == 20) = true := by simpa using h20
                    by_cases hd : x.dst = (j : Int)
                    · have hdb : (x.dst != (j : Int)) = false := by simpa using hd
                      have HV : Hid ((e0 || acrossIn f.blocks (j : Int) q (m + 1)) = false) := Lib.hid (by rw [HA.out, decide_eq_false (show ¬ ((j : Int) ≠ x.dst) from fun h => h hd.symm)]; simp)
                      clear h20 hd
                      go_wp2_with fail
                      go_roundg ok
                      case measure => omega
                      case rel => exact ⟨m + 1, by omega, by go_num, ret_bool' HV.out.symm, HB4⟩
                    · have hdb : (x.dst != (j : Int)) = true := by simpa using hd
                      have HV : Hid ((e0 || acrossIn f.blocks (j : Int) q (m + 1)) = at1) := Lib.hid (by rw [HA.out, decide_eq_true h20, decide_eq_true (show (j : Int) ≠ x.dst from fun h => hd h.symm)]; simp)
                      clear h20 hd
                      go_wp2_with fail
                      go_roundg ok
                      case measure => omega
                      case rel => exact ⟨m + 1, by omega, by go_num, ret_bool' HV.out.symm, HB4⟩
                  · have h20b : (x.op == 20) = false := by simpa using h20
                    have HV : Hid ((e0 || acrossIn f.blocks (j : Int) q (m + 1)) = false) := Lib.hid (by rw [HA.out, decide_eq_false h20]; rfl)
                    clear h20
                    go_wp2_with fail
                    go_roundg ok
                    case measure => omega
                    case rel => exact ⟨m + 1, by omega, by go_num, ret_bool' HV.out.symm, HB4⟩
  · have hub : (uc != 0) = true := by simpa using h0
    have HE : Hid (acrossF gs fs k = []) := Lib.hid (by unfold acrossF; rw [if_pos (by rw [Hun.out]; exact h0)])
    clear h0
    go_wp2_with fail
    go_region
    all_goals
      go_wp2_with fail
      refine end_tmp_cell rfl rfl (Blk.alloc (HX1.out.set2 _ _) _) Tryz.underlying28 rfl (by kernel_rfl) rfl (HP.out _ _ ⟨_, by rw [Hun.out], ?_, ?_⟩)
      · rw [HE.out]; exact OwnInts.nil _ _
      · exact below_drewN (Below.alloc (((HB1.out.setCell Hlg.out _).setCell Hlg.out _)) (by simp; exact HB1.out.size) _) 1
end Go.Proofs.YtiknhfbkphoceaaGreatDoor
namespace Go.Proofs.YtiknhfbkphoceaaGreatDoor
open Go.RowKit
end Go.Proofs.YtiknhfbkphoceaaGreatDoor
