/-
  Several texts in one (LvO LvP): what each proves stands at its theorems.
  Conditions: as the theorems say.
-/
import Derived.Test.YtiknhfbkphoceaaGreatDoorLvN
namespace Go.Proofs.YtiknhfbkphoceaaGreatDoor
open Go.RowKit

/-- The registers that are live across calls. -/
def acrossS (s : List (InsU × (Int → Bool))) (r : Int) : Bool := s.any fun e => decide (e.1.op = 20) && (decide (r ≠ e.1.dst) && e.2 r)
theorem acrossS_snoc (s : List (InsU × (Int → Bool))) (x : InsU) (T : Int → Bool) (r : Int) : acrossS (s ++ [(x, T)]) r = (acrossS s r || (decide (x.op = 20) && (decide (r ≠ x.dst) && T r))) := by
  unfold acrossS
  rw [List.any_append]
  simp
/-- What clash.Across keeps while it goes back. -/
def AcNow (bx bo n : Nat) (s : List (InsU × (Int → Bool))) (W : World) : Prop := Blk W bx 61 #[.map (some bo)] ∧ RegSet W bo n (acrossS s)
/-- A range over a set's map: the registers that have come are the set's. -/
theorem ranging_members {nr : Nat} {D : DataW Unit} {L : List Int} {S : Int → Bool} (hn : nr ≤ 100) (hD : ∀ x, (Lit.int .i64 x).wf = true → Maps.has D (.int .i64 x) = S x) (hS : ∀ x, S x = true → 0 ≤ x ∧ x < (nr : Int))
    {left : Lit → Bool} (hl : ∀ kl, left kl = false) (h4 : ∀ x, x ∈ L ↔ (Lit.int .i64 x).wf = true ∧ Maps.has D (.int .i64 x) = true ∧ left (.int .i64 x) = false) (x : Int) : x ∈ L ↔ S x = true := by
  rw [h4 x]
  constructor
  · rintro ⟨h1, h2, _⟩
    rw [hD x h1] at h2
    exact h2
  · intro h
    have hw := wf_reg hn (hS x h)
    exact ⟨hw, by rw [hD x hw]; exact h, hl _⟩
/-- The registers that have come, but for one. -/
def butL (L : List Int) (d : Int) : List Int := L.filter fun r => decide (r ≠ d)
theorem butL_snoc (L : List Int) (d x : Int) : butL (L ++ [x]) d = if x = d then butL L d else butL L d ++ [x] := by
  unfold butL
  rw [List.filter_append]
  by_cases h : x = d
  · simp [h]
  · simp [h]
set_option maxRecDepth 100000 in
set_option maxHeartbeats 4000000 in
theorem AcrossDo_any (bx bo n : Nat) (s : List (InsU × (Int → Bool))) (x : InsU) (T : Int → Bool) (W : World) (bn : Nat) (aA : Option Addr) (ac : Nat) (hn : n ≤ 100) (hJ : AcNow bx bo n s W) (hne : bn ≠ bo) (hT : RegSet W bn n T) :
    Calls Tryz.prog 32 (#[.agg (insC2 x (.slice aA x.args.length ac)), .map (some bn)] ++ #[.pointer (some ⟨bx, 0, none⟩)]) W fun e W' => e = .returned (.tuple #[]) ∧ AcNow bx bo n (s ++ [(x, T)]) W' ∧ MapsOnly (fun k => k = bo) W W' := by
  obtain ⟨op, dst, ⟨ar, an⟩, ⟨br, bm⟩, fn, args⟩ := x
  have HJ := Lib.hid hJ
  have HT := Lib.hid hT
  have hbx := hJ.1.lt
  have hbo := hJ.2.lt
  have hbnl := hT.lt
  have HB0 : Hid (Below W.heap.size W (W.alloc (.cells #[.int .i64 op, .int .i64 dst, .bool ar, .int .i64 an, .bool br, .int .i64 bm, .int .i64 fn, .slice aA args.length ac] 69))) := Lib.hid ((Below.refl _ _).alloc (Nat.le_refl _) _)
  have HX0 : Hid (Blk (W.alloc (.cells #[.int .i64 op, .int .i64 dst, .bool ar, .int .i64 an, .bool br, .int .i64 bm, .int .i64 fn, .slice aA args.length ac] 69)) W.heap.size 69 #[.int .i64 op, .int .i64 dst, .bool ar, .int .i64 an, .bool br, .int .i64 bm, .int .i64 fn, .slice aA args.length ac]) := Lib.hid (Blk.new _ _ _)
  unfold insC2
  simp only [List.append_toArray, List.cons_append, List.nil_append]
  clear hJ hT
  go_enter Tryz.func32, Tryz.ntmps32
  go_upto_region 1 with fail
  generalize W.alloc (.cells #[.int .i64 op, .int .i64 dst, .bool ar, .int .i64 an, .bool br, .int .i64 bm, .int .i64 fn, .slice aA args.length ac] 69) = W0 at *
  have x0 := HX0.out.cell 0
  by_cases hop : op = 20
  · subst hop
    have HE : Hid (∀ L : List Int, (∀ r, r ∈ L ↔ T r = true) → ∀ r, orS (acrossS s) (butL L dst) r = acrossS (s ++ [(⟨20, dst, ⟨ar, an⟩, ⟨br, bm⟩, fn, args⟩, T)]) r) := Lib.hid (fun L hL r => by
      rw [acrossS_snoc]
      unfold orS butL
      rw [Bool.eq_iff_iff]
      simp only [Bool.or_eq_true, Bool.and_eq_true, decide_eq_true_eq, List.mem_filter, hL r]
      constructor
      · rintro (h | ⟨h1, h2⟩)
        · exact .inl h
        · exact .inr ⟨by trivial, h2, h1⟩
      · rintro (h | ⟨_, h2, h1⟩)
        · exact .inl h
        · exact .inr ⟨h1, h2⟩)
    obtain ⟨⟨D, hown, hD⟩, hS⟩ := HT.out.below HB0.out hbnl
    have HO := Lib.hid hown
    have HD := Lib.hid (And.intro hD hS)
    clear hown hD hS
    go_wp2_with (at_range; refine wpList_range_own _ rfl _ 60 rfl 3 62 regKeyed Tryz.underlying60 _ bn (Maps.size D) D rfl HO.out ?_; intro w1 hrg1 hg1 hs1)
    have HR1 : Hid (Ranging w1 W0.heap.size bn W0.heap.size D [] (Maps.size D)) := Lib.hid (Ranging.start (Nat.le_refl _) hrg1)
    have hW0 : W.heap.size < W0.heap.size := HX0.out.lt
    have HB1 : Hid (Below W0.heap.size W0 w1) := Lib.hid (grown_below hg1 (Nat.le_refl _) (fun k e => by cases e))
    have hsz := regset_size HO.out HD.out.1 HD.out.2
    have hob0 : bo < W0.heap.size := by omega
    have hbn0 : bn < W0.heap.size := by omega
    have hne2 : bo ≠ W0.heap.size := by omega
    have HS1 : Hid (RegSet w1 bo n (orS (acrossS s) (butL [] dst))) := Lib.hid ((((HJ.out.2.below HB0.out hbo).below HB1.out hob0)).congr (fun r => by unfold orS butL; simp))
    have HM1 : Hid (MapsOnly (fun k => k = bo) W0 w1) := Lib.hid (MapsOnly.of_below _ HB1.out)
    clear hrg1 hg1 hs1 x0
    go_frame
    go_loopg [] (Maps.size D) (fun gk wr => ∃ L, Hid (Ranging wr W0.heap.size bn W0.heap.size D L gk) ∧ Hid (RegSet wr bo n (orS (acrossS s) (butL L dst))) ∧ Hid (MapsOnly (fun k => k = bo ∨ W0.heap.size ≤ k) W0 wr))
    case atStart => exact ⟨[], HR1, HS1, Lib.hid (HM1.out.wider fun k h => .inl h)⟩
    case round =>
      obtain ⟨L, HR, HS, HM⟩ := hrel
      clear HR1 HS1 HM1
      obtain ⟨hge, left, hrg, hl1, hl2, hl3, hl4⟩ := HR.out
      have HL := Lib.hid (And.intro hl1 (And.intro hl2 (And.intro hl3 hl4)))
      have Hrg := Lib.hid hrg
      clear hl1 hl2 hl3 hl4 hrg hge
      go_wp2_with (at_next; refine wpList_next_ranges _ rfl _ rfl 3 regKeyed _ (Value.int .i64) (fun _ : Unit => .agg #[]) inv_key inv_unit bn W0.heap.size (Maps.size D) D left gk rfl Hrg.out ?_ ?_)
      · intro _ hl0
        go_wp2_with fail
        go_end0
        have hfin : MapsOnly (fun k => k = bo ∨ W0.heap.size ≤ k) W wr := (MapsOnly.of_below _ HB0.out).trans HM.out
        exact ⟨rfl, ⟨hfin.blk HJ.out.1, HS.out.congr (HE.out L (ranging_members hn HD.out.1 HD.out.2 hl0 HL.out.2.2.2))⟩, ⟨hfin.os, hfin.tape, hfin.output, hfin.size, fun k hk hnk => hfin.block k hk (fun e => e.elim hnk (fun e => by omega)), hfin.cells⟩⟩
      · intro x c kl y w2 cnt2 hkey hlx hy hat hrg2 hlt2 hg2 hs2 hen
        obtain ⟨x', ex, rfl, hwx⟩ := Maps.keyOf_int_inv Tryz.underlying3 hkey
        cases ex
        have HR2 : Hid (Ranging w2 W0.heap.size bn W0.heap.size D (L ++ [x]) cnt2) := Lib.hid (ranging_more (Nat.le_refl _) HL.out.1 HL.out.2.1 HL.out.2.2.1 HL.out.2.2.2 hwx hlx hlt2 hrg2)
        have HS2 : Hid (RegSet w2 bo n (orS (acrossS s) (butL L dst))) := Lib.hid (HS.out.stay (hg2.block bo HS.out.lt (fun e => hne2 (Option.some.inj e))))
        have hbk : ∀ (k : Nat) (o : Obj), W0.heap[k]? = some o → o.isCells = true → w2.heap[k]? = some o := fun k o hk ho => (hg2.block k (Nat.lt_of_lt_of_le (Array.getElem?_eq_some_iff.1 hk).1 HM.out.size) (fun e => by have := Option.some.inj e; have := (Array.getElem?_eq_some_iff.1 hk).1; omega)).trans (HM.out.cells k o hk ho)
        have HM2 : Hid (MapsOnly (fun k => k = bo ∨ W0.heap.size ≤ k) W0 w2) := Lib.hid ⟨hg2.os.trans HM.out.os, hg2.tape.trans HM.out.tape, hg2.output.trans HM.out.output, Nat.le_trans HM.out.size hg2.size, fun k hk hnk => (hg2.block k (Nat.lt_of_lt_of_le hk HM.out.size) (fun e => by have := Option.some.inj e; omega)).trans (HM.out.block k hk hnk), hbk⟩
        have hxT : 0 ≤ x ∧ x < (n : Int) := HD.out.2 x (by rw [← HD.out.1 x hwx]; exact HL.out.2.2.1 _ hlx)
        have x1 := HM2.out.cell (HX0.out.cell 1)
        clear hkey hlx hy hat hrg2 hg2 hs2 hbk
        by_cases hd : x = dst
        · have HS3 : Hid (RegSet w2 bo n (orS (acrossS s) (butL (L ++ [x]) dst))) := Lib.hid (by rw [butL_snoc, if_pos hd]; exact HS2.out)
          subst hd
          go_wp2_with fail
          go_roundg cnt2
          case measure => omega
          case rel => exact ⟨L ++ [x], HR2, HS3, HM2⟩
        · have hdb : (x != dst) = true := by simpa using hd
          have HQ : Hid (orS (orS (acrossS s) (butL L dst)) [x] = orS (acrossS s) (butL (L ++ [x]) dst)) := Lib.hid (by rw [orS_app, butL_snoc, if_neg hd])
          have m0 := HM2.out.cell ((HJ.out.1.below HB0.out hbx).cell 0)
          obtain ⟨⟨D2, hown2, hD2⟩, hS2⟩ := HS2.out
          have hsz2 := regset_size hown2 hD2 hS2
          have HD2 := Lib.hid (And.intro hD2 hS2)
          have HO2 := Lib.hid hown2
          have hkey := regKey hwx
          have HXT := Lib.hid hxT
          clear hown2 hD2 hS2 hd hxT
          go_wp2_with (at_mapUpdate; refine wpList_mapUpdate_in _ rfl _ _ _ 61 rfl 3 62 regKeyed Tryz.underlying61 _ bo (Maps.size D2) D2 rfl HO2.out (by unfold maxLen; omega) _ _ (.int .i64 x) rfl rfl hkey (.agg []) [] unitElem_mk ?_; intro w5 hown5 hturn5)
          have HS5 : Hid (RegSet w5 bo n (orS (acrossS s) (butL (L ++ [x]) dst))) := Lib.hid (by
            rw [← HQ.out]
            exact RegSet.put_ hn HD2.out.1 HD2.out.2 HO2.out.isMap HXT.out hown5)
          have HR5 : Hid (Ranging w5 W0.heap.size bn W0.heap.size D (L ++ [x]) cnt2) := Lib.hid (HR2.out.kept hturn5.grown (fun e => hne (Option.some.inj e)) (fun e => hne2 (Option.some.inj e).symm))
          have HM5 : Hid (MapsOnly (fun k => k = bo ∨ W0.heap.size ≤ k) W0 w5) := Lib.hid (HM2.out.trans (MapsOnly.of_turned hturn5 (.inl rfl)))
          go_roundg cnt2
          case measure => omega
          case rel => exact ⟨L ++ [x], HR5, HS5, HM5⟩
  · have HE : Hid (∀ r, acrossS s r = acrossS (s ++ [(⟨op, dst, ⟨ar, an⟩, ⟨br, bm⟩, fn, args⟩, T)]) r) := Lib.hid (fun r => by
      rw [acrossS_snoc, decide_eq_false hop, Bool.false_and, Bool.or_false])
    have hob : (op != 20) = true := by simpa using hop
    clear hop
    go_wp2_with fail
    refine bodyPost_ret (results_none rfl _ _ _) rfl ?_
    exact ⟨rfl, ⟨HJ.out.1.below HB0.out hbx, (HJ.out.2.below HB0.out hbo).congr HE.out⟩, MapsOnly.of_below _ HB0.out⟩
end Go.Proofs.YtiknhfbkphoceaaGreatDoor
namespace Go.Proofs.YtiknhfbkphoceaaGreatDoor
open Go.RowKit

noncomputable def acrossF (gs : List Glob) (fs : List FunU) (k : Int) : List Int := if (clashF gs fs k).1 ≠ 0 then [] else match fs[k.toNat]? with | some f => listS f.regs.toNat (acrossS (evAll f.blocks f.blocks.length)) | none => []
set_option maxRecDepth 100000 in
set_option maxHeartbeats 4000000 in
theorem Across_any (gv fv : Value) (gs : List Glob) (fs : List FunU) (k : Int) (w : World) (hk : I64 k) (hu : UnitAt w w.heap.size gv fv gs fs) :
    Calls Tryz.prog 10 #[.agg #[gv, fv], .int .i64 k] w (IntsPost w (clashF gs fs k) (acrossF gs fs k)) := by
  have HU := Lib.hid hu
  obtain ⟨A, c, rfl, hl1, hl2⟩ := SlAt.form hu.funs
  obtain ⟨l, hl⟩ : ∃ l, fs.length = l := ⟨_, rfl⟩
  rw [hl] at HU hl1 ⊢
  have Hl := Lib.hid hl
  have HP : Hid (∀ e w', (∃ v, e = .returned (.tuple #[v, .agg #[.int .i64 (clashF gs fs k).1, .int .i64 (clashF gs fs k).2]]) ∧ OwnInts w' w.heap.size v (acrossF gs fs k) ∧ Below w.heap.size w w') → IntsPost w (clashF gs fs k) (acrossF gs fs k) e w') := Lib.hid fun _ _ h => h
  generalize IntsPost w (clashF gs fs k) (acrossF gs fs k) = PE at *
  have Hk : Hid (I64 k) := Lib.hid hk
  have HW0 : Hid (Below w.heap.size w ((w.alloc (.cells #[gv, .slice A l c] 25)).alloc (.cells #[.int .i64 0, .int .i64 0] 28))) := Lib.hid (((Below.refl _ _).alloc (Nat.le_refl _) _).alloc (by simp) _)
  have HC0 : Hid (Blk ((w.alloc (.cells #[gv, .slice A l c] 25)).alloc (.cells #[.int .i64 0, .int .i64 0] 28)) w.heap.size 25 #[gv, .slice A l c]) := Lib.hid ((Blk.new w _ _).alloc _)
  have HX0 : Hid (Blk ((w.alloc (.cells #[gv, .slice A l c] 25)).alloc (.cells #[.int .i64 0, .int .i64 0] 28)) (w.heap.size + 1) 28 #[.int .i64 0, .int .i64 0]) := Lib.hid (by simpa using Blk.new (w.alloc (.cells #[gv, .slice A l c] 25)) 28 #[.int .i64 0, .int .i64 0])
  clear hu hk hl
  go_enter Tryz.func10, Tryz.ntmps10
  go_upto_region 1 with fail
  generalize (w.alloc (.cells #[gv, .slice A l c] 25)).alloc (.cells #[.int .i64 0, .int .i64 0] 28) = W0 at *
  generalize hg1 : w.heap.size + 1 = g1 at *
  have c0 := HC0.out.cell 0
  have c1 := HC0.out.cell 1
  have HU0 := Lib.hid (HU.out.later HW0.out)
  go_wp2_with fail
  refine (CFault_any gv _ gs fs k W0 Hk.out HU0.out).mono ?_
  rintro e W1 ⟨rfl, hb1⟩
  obtain ⟨uc, ua, hun⟩ : ∃ uc ua, clashF gs fs k = (uc, ua) := ⟨_, _, rfl⟩
  rw [hun]
  have Hun := Lib.hid hun
  clear hun
  have HB1 : Hid (Below w.heap.size w W1) := Lib.hid (HW0.out.trans (hb1.mono HW0.out.size))
  have HC1 := Lib.hid (HC0.out.below hb1 HC0.out.lt)
  have HX1 := Lib.hid (HX0.out.below hb1 HX0.out.lt)
  clear hb1 c0 c1 HU0 HC0 HX0 HW0
  have x0 := HX1.out.cell 0
  have x1 := HX1.out.cell 1
  have hfz := HX1.out.frozen 0
  have hfz1 := HX1.out.frozen 1
  have hgl := HX1.out.lt
  have hg0 := HC1.out.lt
  have hul : w.heap.size ≠ g1 := by omega
  have Hlg : Hid (w.heap.size ≤ g1) := Lib.hid (by omega)
  clear hg1
  have heq := fun W => eqFault uc ua 0 0 W
  by_cases h0 : uc = 0
  · subst h0
    have hcz := clashF_zero (gs := gs) (fs := fs) (k := k) (by rw [Hun.out])
    obtain rfl : ua = 0 := by
      have := hcz.1
      rw [Hun.out] at this
      injection this
    obtain ⟨f, hf, hk0, hk1, hph, hho, hbo⟩ := hcz.2.2
    obtain ⟨n, rfl⟩ : ∃ n : Nat, k = (n : Int) := ⟨k.toNat, by omega⟩
    rw [Int.toNat_natCast] at hf
    have hunf : unitF gs fs = (0, 0) := hcz.2.1.all
    obtain ⟨nr, hnr⟩ : ∃ nr : Nat, f.regs = (nr : Int) := ⟨f.regs.toNat, by have := hho.p0; have := hho.r0; omega⟩
    have hnr1 : nr ≤ 100 := by have := hho.r1; omega
    have HE : Hid (acrossF gs fs (n : Int) = listS nr (acrossS (evAll f.blocks f.blocks.length))) := Lib.hid (by
      unfold acrossF
      rw [if_neg (by rw [Hun.out]; simp), Int.toNat_natCast, hf]
      show listS f.regs.toNat _ = _
      rw [hnr, Int.toNat_natCast])
    have HBk := Lib.hid (fun W (hB : Below w.heap.size w W) (bx bo : Nat) (hbo2 : bo < W.heap.size) (h0 : AcNow bx bo nr [] W) => Back_any gv _ gs fs n f W hunf hf hph hho hbo (HU.out.later hB) 32 #[.pointer (some ⟨bx, 0, none⟩)] (fun k => k = bo) (AcNow bx bo nr)
      (fun a W => MuLone.run_callFunc_enter Tryz.func32 (by kernel_rfl) rfl a W) (fun k h => by omega) (fun s W1 W2 hz hJ hm => ⟨hm.blk hJ.1, hm.regs hJ.2 (by omega)⟩)
      (fun s x T W2 bn aA ac hJ hz hbn hT hx => AcrossDo_any bx bo nr s x T W2 bn aA ac hnr1 hJ (by omega) (by rw [hnr, Int.toNat_natCast] at hT; exact hT)) h0)
    have c0 := HC1.out.cell 0
    have c1 := HC1.out.cell 1
    have hmm := @run_makeMap Tryz.prog
    have hz1 := HB1.out.size
    have HB2 : Hid (Below w.heap.size w (((W1.alloc (.cells #[.int .i64 0, .int .i64 0] 28)).alloc (.map #[] 0)).alloc (.cells #[.map (some (W1.heap.size + 1))] 61))) := Lib.hid (((HB1.out.alloc hz1 _).alloc (by simp; omega) _).alloc (by simp; omega) _)
    have HC2 := Lib.hid (((HC1.out.alloc (.cells #[.int .i64 0, .int .i64 0] 28)).alloc (.map #[] 0)).alloc (.cells #[.map (some (W1.heap.size + 1))] 61))
    have HX2 := Lib.hid (((HX1.out.alloc (.cells #[.int .i64 0, .int .i64 0] 28)).alloc (.map #[] 0)).alloc (.cells #[.map (some (W1.heap.size + 1))] 61))
    have HA2 : Hid (AcNow (W1.heap.size + 1 + 1) (W1.heap.size + 1) nr [] (((W1.alloc (.cells #[.int .i64 0, .int .i64 0] 28)).alloc (.map #[] 0)).alloc (.cells #[.map (some (W1.heap.size + 1))] 61))) := Lib.hid (by
      refine ⟨?_, ?_⟩
      · have h := Blk.new ((W1.alloc (.cells #[.int .i64 0, .int .i64 0] 28)).alloc (.map #[] 0)) 61 #[.map (some (W1.heap.size + 1))]
        rw [World.size_alloc, World.size_alloc] at h
        exact h
      · have h := RegSet.made (W1.alloc (.cells #[.int .i64 0, .int .i64 0] 28)) nr
        rw [World.size_alloc] at h
        exact (h.below ((Below.refl _ _).alloc (Nat.le_refl _) _) h.lt).congr (fun _ => rfl))
    clear hcz hf hk0 hk1 hph hho hbo hunf c0 c1
    have c0 := HC1.out.cell 0
    have c1 := HC1.out.cell 1
    go_upto_region 5 with fail
    generalize ((W1.alloc (.cells #[.int .i64 0, .int .i64 0] 28)).alloc (.map #[] 0)).alloc (.cells #[.map (some (W1.heap.size + 1))] 61) = W2 at *
    have c0 := HC2.out.cell 0
    have c1 := HC2.out.cell 1
    have hbl : W1.heap.size + 1 < W2.heap.size := HA2.out.2.lt
    have hwb : w.heap.size ≤ W1.heap.size + 1 := by omega
    go_wp2_with fail
    refine (HBk.out W2 HB2.out (W1.heap.size + 1 + 1) (W1.heap.size + 1) hbl HA2.out).mono ?_
    rintro e W3 ⟨rfl, hJ3, hm3⟩
    have HB3 : Hid (Below w.heap.size w W3) := Lib.hid (HB2.out.trans (hm3.below HB2.out.size (fun k h => by omega)))
    have HX3 := Lib.hid (hm3.blk HX2.out)
    have HR3 := Lib.hid hJ3.2
    have m0 := hJ3.1.cell 0
    clear c0 c1 hJ3 hm3
    go_wp2_with fail
    refine (rising_any (W1.heap.size + 1) nr _ W3 hnr1 HR3.out).mono ?_
    rintro e w4 ⟨v, rfl, hv4, hb4⟩
    have HB4 : Hid (Below w.heap.size w w4) := Lib.hid (HB3.out.trans (hb4.mono HB3.out.size))
    have HX4 := Lib.hid (HX3.out.below hb4 HX3.out.lt)
    have HV4 := Lib.hid (row_more hv4 HB3.out.size)
    clear hv4 hb4 m0 x0 x1 hfz hfz1
    have x0 := HX4.out.cell 0
    have x1 := HX4.out.cell 1
    have hfz := HX4.out.frozen 0
    have hfz1 := HX4.out.frozen 1
    go_wp2_with fail
    refine end_tmp_cell rfl rfl (HX4.out.set2 _ _) Tryz.underlying28 rfl (by kernel_rfl) rfl (HP.out _ _ ⟨_, by rw [Hun.out], ?_, ?_⟩)
    · rw [HE.out]
      exact row_far (row_far HV4.out HX4.out (by decide) _) (HX4.out.set_ 0 _) (by decide) _
    · exact (HB4.out.setCell Hlg.out _).setCell Hlg.out _
  · have hub : (uc == 0) = false := by simpa using h0
    have HE : Hid (acrossF gs fs k = []) := Lib.hid (by unfold acrossF; rw [if_pos (by rw [Hun.out]; exact h0)])
    clear h0
    go_wp2_with fail
    go_region
    all_goals
      go_wp2_with fail
      refine end_tmp_cell rfl rfl (Blk.alloc (HX1.out.set2 _ _) _) Tryz.underlying28 rfl (by kernel_rfl) rfl (HP.out _ _ ⟨_, by rw [Hun.out], ?_, ?_⟩)
      · rw [HE.out]; exact OwnInts.nil _ _
      · exact (below_drewN (Below.alloc (((HB1.out.setCell Hlg.out _).setCell Hlg.out _)) (by simp; exact HB1.out.size) _) 1)
end Go.Proofs.YtiknhfbkphoceaaGreatDoor
