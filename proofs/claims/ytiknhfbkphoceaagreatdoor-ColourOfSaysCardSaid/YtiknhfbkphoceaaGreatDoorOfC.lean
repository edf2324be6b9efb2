/-
  clash.Of.
  Conditions: the unit's numbers are Go's.
-/
import Derived.Test.YtiknhfbkphoceaaGreatDoorOfB
namespace Go.Proofs.YtiknhfbkphoceaaGreatDoor
open Go.RowKit

/-- All pairs of two lists. -/
def prodP (l m : List Int) : List (Int × Int) := l.flatMap fun a => m.map fun b => (a, b)
theorem prodP_take {l m : List Int} {j : Nat} {x : Int} (h : l[j]? = some x) : prodP (l.take (j + 1)) m = prodP (l.take j) m ++ m.map fun b => (x, b) := by
  unfold prodP
  obtain ⟨hj, e⟩ := List.getElem?_eq_some_iff.1 h
  rw [List.take_succ_eq_append_getElem hj, e, List.flatMap_append]
  simp
theorem begin_all {n : Nat} {I : Int → Bool} (h : ∀ r, I r = true → 0 ≤ r ∧ r < (n : Int)) (a b : Int) : addPs (fun _ _ => false) (prodP (listS n I) (listS n I)) a b = (decide (a ≠ b) && (I a && I b)) := by
  unfold addPs
  rw [Bool.false_or]
  congr 1
  rw [Bool.eq_iff_iff]
  unfold prodP
  simp only [List.any_eq_true, List.mem_flatMap, List.mem_map, Bool.or_eq_true, Bool.and_eq_true, decide_eq_true_eq, listS_mem]
  constructor
  · rintro ⟨p, ⟨x, ⟨_, _, hx⟩, y, ⟨_, _, hy⟩, rfl⟩, ⟨h1, h2⟩ | ⟨h1, h2⟩⟩
    · subst h1; subst h2; exact ⟨hx, hy⟩
    · subst h1; subst h2; exact ⟨hy, hx⟩
  · rintro ⟨ha, hb⟩
    exact ⟨(a, b), ⟨a, ⟨(h a ha).1, (h a ha).2, ha⟩, b, ⟨(h b hb).1, (h b hb).2, hb⟩, rfl⟩, .inl ⟨rfl, rfl⟩⟩
noncomputable def beginS (bs : List BlkU) (a b : Int) : Bool := decide (a ≠ b) && (inU bs 0 a && inU bs 0 b)
/-- Which registers clash. -/
noncomputable def ofS (bs : List BlkU) : Int → Int → Bool := clashS (beginS bs) (evAll bs bs.length)
noncomputable def ofRows (f : FunU) : List (List Int) := (List.range f.regs.toNat).map fun (a : Nat) => listS f.regs.toNat (ofS f.blocks (a : Int))
noncomputable def ofF (gs : List Glob) (fs : List FunU) (k : Int) : List (List Int) := if (clashF gs fs k).1 ≠ 0 then [] else match fs[k.toNat]? with | some f => ofRows f | none => []
/-- What a call that hands out rows of numbers, or a fault, comes to. -/
def RowsPost (w : World) (p : Int × Int) (xss : List (List Int)) (e : Ending) (w' : World) : Prop := ∃ v, e = .returned (.tuple #[v, .agg #[.int .i64 p.1, .int .i64 p.2]]) ∧ RowsOwn w' w.heap.size v xss ∧ Below w.heap.size w w'
/-- clash.Of, while it makes its sets. -/
structure SetsMake (w wr : World) (g1 bs gs n j : Nat) (gv fv : Value) (ms : List Nat) : Prop where
  below : Below w.heap.size w wr
  unit : Blk wr w.heap.size 25 #[gv, fv]
  fault : Blk wr g1 28 #[.int .i64 0, .int .i64 0]
  box : Blk wr bs 59 #[.slice (some ⟨gs, 0, none⟩) n n]
  row : Blk wr gs 61 ((ms.map fun b => Value.map (some b)) ++ List.replicate (n - j) (Value.map none)).toArray
  len : ms.length = j
  nd : ms.Nodup
  sets : ∀ b ∈ ms, w.heap.size ≤ b ∧ RegSet wr b n (fun _ => false)
theorem set_mid {α : Type} (l : List α) (m : Nat) (x y : α) (hm : 0 < m) : (l ++ List.replicate m x).set l.length y = (l ++ [y]) ++ List.replicate (m - 1) x := by
  obtain ⟨k, rfl⟩ : ∃ k, m = k + 1 := ⟨m - 1, by omega⟩
  rw [List.replicate_succ, List.set_append_right _ _ (Nat.le_refl _), Nat.sub_self, List.set_cons_zero]
  simp
theorem SetsMake.step {w wr : World} {g1 bs gs n j : Nat} {gv fv : Value} {ms : List Nat} (h : SetsMake w wr g1 bs gs n j gv fv ms) (hj : j < n) (hgs : w.heap.size ≤ gs) :
    SetsMake w ((wr.alloc (.map #[] 0)).setCell ⟨gs, j, none⟩ (.map (some wr.heap.size))) g1 bs gs n (j + 1) gv fv (ms ++ [wr.heap.size]) := by
  have hlt : ∀ b ∈ ms, b < wr.heap.size := fun b hb => (h.sets b hb).2.lt
  have hb1 : Below wr.heap.size wr (wr.alloc (.map #[] 0)) := (Below.refl _ _).alloc (Nat.le_refl _) _
  have hrow := h.row.alloc (.map #[] 0)
  refine ⟨(h.below.alloc h.below.size _).setCell hgs _, (h.unit.alloc _).far (blk_ne h.unit h.row (by decide)) _, (h.fault.alloc _).far (blk_ne h.fault h.row (by decide)) _, (h.box.alloc _).far (blk_ne h.box h.row (by decide)) _, ?_, by simp [h.len], ?_, ?_⟩
  · have := hrow.set_ j (.map (some wr.heap.size))
    unfold Blk at this ⊢
    rw [this]
    congr 2
    rw [List.setIfInBounds_toArray]
    congr 1
    have h1 := set_mid (ms.map fun b => Value.map (some b)) (n - j) (.map none) (.map (some wr.heap.size)) (by omega)
    rw [List.length_map, h.len] at h1
    rw [h1, List.map_append]
    simp [Nat.sub_sub]
  · rw [List.nodup_append]
    refine ⟨h.nd, by simp, fun a ha b hb e => ?_⟩
    simp only [List.mem_singleton] at hb
    have := hlt a ha
    omega
  · intro b hb
    simp only [List.mem_append, List.mem_singleton] at hb
    rcases hb with hb | rfl
    · obtain ⟨h1, h2⟩ := h.sets b hb
      refine ⟨h1, RegSet.stay (h2.below hb1 h2.lt) (Below.heap_setCell _ _ _ _ ?_)⟩
      exact (h2.ne h.row)
    · refine ⟨h.below.size, RegSet.stay (RegSet.made wr n) (Below.heap_setCell _ _ _ _ ?_)⟩
      have := h.row.lt
      simp only
      omega
theorem SetsMake.done {w wr : World} {g1 bs gs n : Nat} {gv fv : Value} {ms : List Nat} (h : SetsMake w wr g1 bs gs n n gv fv ms) : SetsNow wr bs gs n ms (fun _ _ => false) := by
  refine ⟨h.box, ?_, h.len, h.nd, fun r b hb => (h.sets b (List.mem_of_getElem? hb)).2⟩
  have := h.row
  rw [Nat.sub_self, List.replicate_zero, List.append_nil] at this
  exact this
theorem infoSetC : (Tryz.prog.info? 61).map (fun i => (i.zero, i.size, i.bytes)) = some (some (.map none), 1, 8) := by kernel_rfl
theorem made_maps (n : Nat) : madeCells #[.map none] n = (List.replicate n (Value.map none)).toArray := by
  apply Array.toList_inj.1
  simp [madeCells, Nat.mod_one, List.map_const']
set_option maxRecDepth 100000 in
set_option maxHeartbeats 8000000 in
theorem Of_any (gv fv : Value) (gs : List Glob) (fs : List FunU) (k : Int) (w : World) (hk : I64 k) (hu : UnitAt w w.heap.size gv fv gs fs) :
    Calls Tryz.prog 7 #[.agg #[gv, fv], .int .i64 k] w (RowsPost w (clashF gs fs k) (ofF gs fs k)) := by
  have HU := Lib.hid hu
  obtain ⟨A, c, rfl, hl1, hl2⟩ := SlAt.form hu.funs
  obtain ⟨l, hl⟩ : ∃ l, fs.length = l := ⟨_, rfl⟩
  rw [hl] at HU hl1 ⊢
  have Hl := Lib.hid hl
  have HP : Hid (∀ e w', (∃ v, e = .returned (.tuple #[v, .agg #[.int .i64 (clashF gs fs k).1, .int .i64 (clashF gs fs k).2]]) ∧ RowsOwn w' w.heap.size v (ofF gs fs k) ∧ Below w.heap.size w w') → RowsPost w (clashF gs fs k) (ofF gs fs k) e w') := Lib.hid fun _ _ h => h
  generalize RowsPost w (clashF gs fs k) (ofF gs fs k) = PE at *
  have Hk : Hid (I64 k) := Lib.hid hk
  have HW0 : Hid (Below w.heap.size w ((w.alloc (.cells #[gv, .slice A l c] 25)).alloc (.cells #[.int .i64 0, .int .i64 0] 28))) := Lib.hid (((Below.refl _ _).alloc (Nat.le_refl _) _).alloc (by simp) _)
  have HC0 : Hid (Blk ((w.alloc (.cells #[gv, .slice A l c] 25)).alloc (.cells #[.int .i64 0, .int .i64 0] 28)) w.heap.size 25 #[gv, .slice A l c]) := Lib.hid ((Blk.new w _ _).alloc _)
  have HX0 : Hid (Blk ((w.alloc (.cells #[gv, .slice A l c] 25)).alloc (.cells #[.int .i64 0, .int .i64 0] 28)) (w.heap.size + 1) 28 #[.int .i64 0, .int .i64 0]) := Lib.hid (by simpa using Blk.new (w.alloc (.cells #[gv, .slice A l c] 25)) 28 #[.int .i64 0, .int .i64 0])
  clear hu hk hl
  go_enter Tryz.func7, Tryz.ntmps7
  go_upto_region 1 with fail
  generalize (w.alloc (.cells #[gv, .slice A l c] 25)).alloc (.cells #[.int .i64 0, .int .i64 0] 28) = W0 at *
  generalize hg1 : w.heap.size + 1 = g1 at *
  have c0 := HC0.out.cell 0
  have c1 := HC0.out.cell 1
  have HU0 := Lib.hid (HU.out.later HW0.out)
  go_wp2_with fail
  refine (CFault_any gv _ gs fs k W0 Hk.out HU0.out).mono ?_
  rintro e W1 ⟨rfl, hb1⟩
  obtain ⟨uc, ua, hun⟩ : ∃ uc ua, clashF gs fs k = (uc, ua) := ⟨_, _, rfl⟩
  rw [hun]
  have Hun := Lib.hid hun
  clear hun
  have HB1 : Hid (Below w.heap.size w W1) := Lib.hid (HW0.out.trans (hb1.mono HW0.out.size))
  have HC1 := Lib.hid (HC0.out.below hb1 HC0.out.lt)
  have HX1 := Lib.hid (HX0.out.below hb1 HX0.out.lt)
  clear hb1 c0 c1 HU0 HC0 HX0 HW0
  have x0 := HX1.out.cell 0
  have x1 := HX1.out.cell 1
  have hfz := HX1.out.frozen 0
  have hfz1 := HX1.out.frozen 1
  have hgl := HX1.out.lt
  have hg0 := HC1.out.lt
  have hul : w.heap.size ≠ g1 := by omega
  have Hlg : Hid (w.heap.size ≤ g1) := Lib.hid (by omega)
  clear hg1
  have heq := fun W => eqFault uc ua 0 0 W
  by_cases h0 : uc = 0
  · subst h0
    have hcz := clashF_zero (gs := gs) (fs := fs) (k := k) (by rw [Hun.out])
    obtain rfl : ua = 0 := by
      have := hcz.1
      rw [Hun.out] at this
      injection this
    obtain ⟨f, hf, hk0, hk1, hph, hho, hbo⟩ := hcz.2.2
    obtain ⟨n, rfl⟩ : ∃ n : Nat, k = (n : Int) := ⟨k.toNat, by omega⟩
    rw [Int.toNat_natCast] at hf
    have hunf : unitF gs fs = (0, 0) := hcz.2.1.all
    have hnl : n < l := by rw [Hl.out] at hk1; omega
    obtain ⟨fb, fo, f', bA, bc, rfl, hfb, hfn, f0, f1, f2, f3, _⟩ := FunsAt.one HU.out.funs hnl
    obtain rfl : f = f' := by
      rw [hf] at hfn
      exact Option.some.inj hfn
    obtain ⟨nr, hnr⟩ : ∃ nr : Nat, f.regs = (nr : Int) := ⟨f.regs.toNat, by have := hho.p0; have := hho.r0; omega⟩
    have hnr1 : nr ≤ 100 := by have := hho.r1; omega
    rw [hnr] at f2
    have HE : Hid (ofF gs fs (n : Int) = (List.range nr).map fun (a : Nat) => listS nr (ofS f.blocks (a : Int))) := Lib.hid (by
      unfold ofF
      rw [if_neg (by rw [Hun.out]; simp), Int.toNat_natCast, hf]
      show ofRows f = _
      unfold ofRows
      rw [hnr, Int.toNat_natCast])
    have HBg := Lib.hid (fun W (hB : Below w.heap.size w W) => Begin_any gv _ gs fs n f W hunf hf hph hho hbo (HU.out.later hB))
    rw [hnr, Int.toNat_natCast] at HBg
    have HRg : Hid (∀ r, inU f.blocks 0 r = true → 0 ≤ r ∧ r < (nr : Int)) := Lib.hid (by
      refine fun r hr => inU_range (bs := f.blocks) (n := nr) ⟨fun b hb x hx r hr => ?_, fun b hb r hr => ?_⟩ 0 r hr
      · have h := hnr ▸ hbo.list b hb x hx
        rw [takes_vals h, decide_eq_true_eq] at hr
        exact occVs_in (fun v hv => vals_in h v hv) r hr
      · unfold occV at hr
        split at hr
        · rename_i h
          simp only [List.mem_singleton] at hr
          subst hr
          exact hnr ▸ (hbo.ends b hb).on h
        · cases hr)
    have HBk := Lib.hid (fun W (hB : Below w.heap.size w W) (bcl bs g2 : Nat) (ms : List Nat) (hms : ∀ b ∈ ms, w.heap.size ≤ b ∧ b < W.heap.size) (h0 : OfNow bcl bs g2 nr ms (beginS f.blocks) [] W) => Back_any gv _ gs fs n f W hunf hf hph hho hbo (HU.out.later hB) 30 #[.pointer (some ⟨bcl, 0, none⟩)] (fun k => k ∈ ms) (OfNow bcl bs g2 nr ms (beginS f.blocks))
      (fun a W => MuLone.run_callFunc_enter Tryz.func30 (by kernel_rfl) rfl a W) (fun k h => (hms k h).2) (fun s W1 W2 hz hJ hm => ⟨hm.blk hJ.fn, hJ.sets.maps hm (fun b hb => by have := (hms b hb).2; omega)⟩)
      (fun s x T W2 bn aA ac hJ hz hbn hT hx => OfDo_any bcl bs g2 nr ms (beginS f.blocks) s x T W2 bn aA ac hnr1 (by
        rcases hx.dst with h | ⟨_, _, h⟩
        · omega
        · rw [hnr] at h; exact h) hJ (fun h => by have := (hms bn h).2; omega) (by rw [hnr, Int.toNat_natCast] at hT; exact hT)) h0)
    have c0 := HC1.out.cell 0
    have c1 := HC1.out.cell 1
    have hz1 := HB1.out.size
    have hfb1 : fb < W1.heap.size := Nat.lt_of_lt_of_le hfb HB1.out.size
    have f2 := (bcell HB1.out hfb).trans f2
    have hn1 : (n : Int) < (l : Int) := by omega
    have hmk := fun W : World => run_make_row' (P := Tryz.prog) 59 61 (.map none) 8 Tryz.underlying59 infoSetC rfl .i64 .i64 nr (by omega) (by omega) W
    have HN0 : Hid (SetsMake w (((W1.alloc (.cells #[.int .i64 0, .int .i64 0] 28)).alloc (.cells (madeCells #[.map none] nr) 61)).alloc (.cells #[.slice (some ⟨W1.heap.size + 1, 0, none⟩) nr nr] 59)) g1 (W1.heap.size + 1 + 1) (W1.heap.size + 1) nr 0 gv (.slice (some ⟨fb, fo, none⟩) l c) []) := Lib.hid (by
      refine ⟨((HB1.out.alloc hz1 _).alloc (by simp; omega) _).alloc (by simp; omega) _, ((HC1.out.alloc _).alloc _).alloc _, ((HX1.out.alloc _).alloc _).alloc _, ?_, ?_, rfl, List.nodup_nil, fun b hb => by cases hb⟩
      · have h := Blk.new ((W1.alloc (.cells #[.int .i64 0, .int .i64 0] 28)).alloc (.cells (madeCells #[.map none] nr) 61)) 59 #[.slice (some ⟨W1.heap.size + 1, 0, none⟩) nr nr]
        simp only [World.size_alloc] at h
        exact h
      · have h := (Blk.new (W1.alloc (.cells #[.int .i64 0, .int .i64 0] 28)) 61 (madeCells #[.map none] nr)).alloc (.cells #[.slice (some ⟨W1.heap.size + 1, 0, none⟩) nr nr] 59)
        rw [World.size_alloc] at h
        have e := made_maps nr
        unfold Blk at h ⊢
        rw [h, e]
        simp)
    clear hcz hf hk0 hk1 hph hho hbo hunf hfn hnr f0 f1 f3
    go_upto_region 6 with fail
    generalize (((W1.alloc (.cells #[.int .i64 0, .int .i64 0] 28)).alloc (.cells (madeCells #[.map none] nr) 61)).alloc (.cells #[.slice (some ⟨W1.heap.size + 1, 0, none⟩) nr nr] 59)) = W2 at *
    generalize hg2 : W1.heap.size + 1 = g2 at *
    generalize hbs : g2 + 1 = bs at *
    have hg20 : w.heap.size ≤ g2 := by omega
    have hmm := @run_makeMap Tryz.prog
    clear hmk heq x0 x1 hfz hfz1 HB1 HC1 HX1 hgl hg0 hul c0 c1 f2 hz1 hfb1 hg2 hbs
    go_loopg [34] nr (fun gk i wr => ∃ (j : Nat) (ms : List Nat), j + gk = nr ∧ i = .int .i64 (j : Int) ∧ Hid (SetsMake w wr g1 bs g2 nr j gv (.slice (some ⟨fb, fo, none⟩) l c) ms))
    case atStart => exact ⟨0, [], by omega, rfl, HN0⟩
    case round =>
      obtain ⟨j, ms, hj, rfl, HS⟩ := hrel
      clear HN0
      have b0 := HS.out.box.cell 0
      rcases gk with _ | mk
      · have hjt : ¬ (j : Int) < (nr : Int) := by omega
        obtain rfl : j = nr := by omega
        have HS3 : Hid (SetsNow (wr.alloc (.cells #[.func (.func 28) #[] #[.pointer (some ⟨bs, 0, none⟩)]] 63)) bs g2 j ms (fun _ _ => false)) := Lib.hid (HS.out.done.maps (MapsOnly.of_below (fun _ => False) ((Below.refl _ _).alloc (Nat.le_refl _) _)) (fun _ _ h => h))
        have HB3 : Hid (Below w.heap.size w (wr.alloc (.cells #[.func (.func 28) #[] #[.pointer (some ⟨bs, 0, none⟩)]] 63))) := Lib.hid (HS.out.below.alloc HS.out.below.size _)
        have HC3 := Lib.hid (HS.out.unit.alloc (.cells #[.func (.func 28) #[] #[.pointer (some ⟨bs, 0, none⟩)]] 63))
        have HX3 := Lib.hid (HS.out.fault.alloc (.cells #[.func (.func 28) #[] #[.pointer (some ⟨bs, 0, none⟩)]] 63))
        have HF3 : Hid (Blk (wr.alloc (.cells #[.func (.func 28) #[] #[.pointer (some ⟨bs, 0, none⟩)]] 63)) wr.heap.size 63 #[.func (.func 28) #[] #[.pointer (some ⟨bs, 0, none⟩)]]) := Lib.hid (Blk.new _ _ _)
        have Hms : Hid (∀ b ∈ ms, w.heap.size ≤ b ∧ b < wr.heap.size) := Lib.hid (fun b hb => ⟨(HS.out.sets b hb).1, (HS.out.sets b hb).2.lt⟩)
        clear HS
        go_upto_region 11 with fail
        generalize hbc : wr.heap.size = bcl at *
        generalize wr.alloc (.cells #[.func (.func 28) #[] #[.pointer (some ⟨bs, 0, none⟩)]] 63) = W3 at *
        clear b0 hbc
        have c0 := HC3.out.cell 0
        have c1 := HC3.out.cell 1
        go_wp2_with fail
        refine (HBg.out W3 HB3.out).mono ?_
        rintro e W4 ⟨v, rfl, hv4, hb4⟩
        have HB4 := Lib.hid (HB3.out.trans (hb4.mono HB3.out.size))
        have HC4 := Lib.hid (HC3.out.below hb4 HC3.out.lt)
        have HX4 := Lib.hid (HX3.out.below hb4 HX3.out.lt)
        have HF4 := Lib.hid (HF3.out.below hb4 HF3.out.lt)
        have HS4 := Lib.hid (HS3.out.maps (MapsOnly.of_below (fun _ => False) hb4) (fun _ _ h => h))
        have hbc4 : bcl < W4.heap.size := HF4.out.lt
        obtain ⟨vA, vc, rfl⟩ := row_form hv4
        obtain ⟨Lr, hLr⟩ : ∃ Lr, listS j (inU f.blocks 0) = Lr := ⟨_, rfl⟩
        rw [hLr] at hv4 ⊢
        have HLr := Lib.hid hLr
        obtain ⟨A', c', eA, hr1, hr2, hr3⟩ := OwnInts.ints hv4
        obtain rfl : A' = vA := ((Value.slice.inj eA).1).symm
        obtain ⟨bl, hbl⟩ : ∃ bl, Lr.length = bl := ⟨_, rfl⟩
        rw [hbl] at hr1 hr3 ⊢
        have Hbl := Lib.hid hbl
        have Hr3 := Lib.hid hr3
        have hbl100 : bl ≤ 100 := by
          have h := listS_len j (inU f.blocks 0)
          rw [hLr] at h
          omega
        have HLm : Hid (∀ x ∈ Lr, 0 ≤ x ∧ x < (j : Int)) := Lib.hid (fun x hx => by rw [← hLr, listS_mem] at hx; exact ⟨hx.1, hx.2.1⟩)
        clear eA hr1 hr2 hr3 hbl hLr hv4 hb4 c0 c1 HB3 HC3 HX3 HF3 HS3
        go_upto_region 13 with fail
        go_loopg [48] bl (fun gk i wx => ∃ q : Nat, q + gk = bl ∧ i = .int .i64 (q : Int) ∧ Hid (SetsNow wx bs g2 j ms (addPs (fun _ _ => false) (prodP (Lr.take q) Lr))) ∧ Hid (MapsOnly (fun k => k ∈ ms) W4 wx))
        case atStart => exact ⟨0, by omega, rfl, Lib.hid (by rw [List.take_zero, show prodP [] Lr = [] from rfl, addPs_nil]; exact HS4.out), Lib.hid (MapsOnly.refl _ _)⟩
        case round =>
          obtain ⟨q, hq, rfl, HSq, HMq⟩ := hrel
          rcases gk with _ | nk
          · have hqt : ¬ (q : Int) < (bl : Int) := by omega
            have HO5 : Hid (OfNow bcl bs g2 j ms (beginS f.blocks) [] wr) := Lib.hid (by
              refine ⟨HMq.out.blk HF4.out, HSq.out.congr fun a b => ?_⟩
              rw [clashS_nil, List.take_of_length_le (by rw [Hbl.out]; omega), ← HLr.out, begin_all HRg.out]
              rfl)
            have HB5 : Hid (Below w.heap.size w wr) := Lib.hid (HB4.out.trans (HMq.out.below HB4.out.size (fun b hb => (Hms.out b hb).1)))
            have HC5 := Lib.hid (HMq.out.blk HC4.out)
            have HX5 := Lib.hid (HMq.out.blk HX4.out)
            have hzq := HMq.out.size
            have Hms5 : Hid (∀ b ∈ ms, w.heap.size ≤ b ∧ b < wr.heap.size) := Lib.hid (fun b hb => by have := Hms.out b hb; omega)
            have HBk5 := Lib.hid (HBk.out wr HB5.out bcl bs g2 ms Hms5.out HO5.out)
            have c0 := HC5.out.cell 0
            have c1 := HC5.out.cell 1
            clear HS4 HC4 HX4 HSq HMq HBk HBg
            go_wp2_with fail
            refine HBk5.out.mono ?_
            rintro e W5 ⟨rfl, hJ5, hm5⟩
            have HB6 : Hid (Below w.heap.size w W5) := Lib.hid (HB5.out.trans (hm5.below HB5.out.size (fun b hb => (Hms5.out b hb).1)))
            have HX6 := Lib.hid (hm5.blk HX5.out)
            have HS6 : Hid (SetsNow W5 bs g2 j ms (ofS f.blocks)) := Lib.hid hJ5.sets
            have b0 := hJ5.sets.box.cell 0
            clear hJ5 hm5 c0 c1 HC5 HX5 HBk5 HO5
            go_wp2_with fail
            go_loopg [15, 70] j (fun gk s i wx => ∃ q : Nat, q + gk = j ∧ i = .int .i64 (q : Int) ∧ Hid (RowsOwn wx W5.heap.size s ((List.range q).map fun (a : Nat) => listS j (ofS f.blocks (a : Int)))) ∧ Hid (Below W5.heap.size W5 wx))
            case atStart => exact ⟨0, by omega, rfl, Lib.hid (RowsOwn.nil _ _), Lib.hid (Below.refl _ _)⟩
            case round =>
              obtain ⟨p, hp, rfl, HOp, HBp⟩ := hrel
              rcases gk with _ | pk
              · have hpt : ¬ (p : Int) < (j : Int) := by omega
                obtain rfl : p = j := by omega
                have HX7 := Lib.hid (HX6.out.below HBp.out HX6.out.lt)
                have HB7 : Hid (Below w.heap.size w wr) := Lib.hid (HB6.out.trans (HBp.out.mono HB6.out.size))
                have HO7 := Lib.hid (HOp.out.more HB6.out.size)
                have x0 := HX7.out.cell 0
                have x1 := HX7.out.cell 1
                have hfz := HX7.out.frozen 0
                have hfz1 := HX7.out.frozen 1
                clear HOp HBp HX6 HB6 HS6 b0
                go_wp2_with fail
                refine end_tmp_cell rfl rfl (HX7.out.set2 _ _) Tryz.underlying28 rfl (by kernel_rfl) rfl (HP.out _ _ ⟨_, by rw [Hun.out], ?_, ?_⟩)
                · rw [HE.out]
                  exact (HO7.out.far HX7.out (by decide) (by decide) _ _).far (HX7.out.set_ 0 _) (by decide) (by decide) _ _
                · exact (HB7.out.setCell Hlg.out _).setCell Hlg.out _
              · have hpt : (p : Int) < (j : Int) := by omega
                have hp0 : (0 : Int) ≤ (p : Int) := Int.natCast_nonneg p
                obtain ⟨mb, hmb⟩ : ∃ mb, ms[p]? = some mb := ⟨_, List.getElem?_eq_getElem (by rw [HS6.out.len]; omega)⟩
                have s0 := (bcell HBp.out HS6.out.row.lt).trans (HS6.out.cell hmb)
                have HRp := Lib.hid ((HS6.out.sets p mb hmb).below HBp.out (HS6.out.sets p mb hmb).lt)
                clear b0
                go_wp2_with fail
                refine (rising_any mb j _ wr hnr1 HRp.out).mono ?_
                rintro e w8 ⟨v8, rfl, ho8, hb8⟩
                have HB8 := Lib.hid (HBp.out.trans (hb8.mono HBp.out.size))
                obtain ⟨rs, hr1, hr2, hr3⟩ := HOp.out.below hb8 rfl
                have hrl : rs.length = p := by rw [hr1]; simp
                have HO8 : Hid (OwnInts w8 W5.heap.size v8 (listS j (ofS f.blocks (p : Int)))) := Lib.hid (row_more ho8 HBp.out.size)
                obtain ⟨A8, c8, rfl⟩ := row_form ho8
                have Hr := Lib.hid (And.intro hr1 (And.intro hr2 hr3))
                have hz8 := HB8.out.size
                clear hb8 ho8 hr1 hr2 hr3 HRp HOp HBp s0 hmb
                go_wp2_with (at_builtin; refine app_one rfl _ _ 33 26 rfl (.slice none 0 0) 1 24 Tryz.underlying33 info_ints rfl (by decide) (by decide) W5.heap.size _ _ _ (by rfl) Hr.out.2.1 _ [.slice A8 (listS j (ofS f.blocks (p : Int))).length c8] (by rfl) rfl (fun x hx => by simp at hx; subst hx; rfl) rfl (by omega) hz8 ?_; intro v9 w9 HA9)
                have HO9 : Hid (RowsOwn w9 W5.heap.size v9 ((List.range (p + 1)).map fun (a : Nat) => listS j (ofS f.blocks (a : Int)))) := Lib.hid (by
                  rw [List.range_succ, List.map_append]
                  exact RowsOwn.snoc Hr.out.1 Hr.out.2.1 Hr.out.2.2 HO8.out HA9.out)
                have HB9 := Lib.hid (HB8.out.trans HA9.out.below)
                go_roundg pk
                case measure => omega
                case rel => exact ⟨p + 1, by omega, by go_num, HO9, HB9⟩
          · have hqt : (q : Int) < (bl : Int) := by omega
            have hq0 : (0 : Int) ≤ (q : Int) := Int.natCast_nonneg q
            obtain ⟨rb, ro, rfl, hrb, hrc⟩ := Hr3.out (by omega)
            obtain ⟨xa, hxa⟩ : ∃ x, Lr[q]? = some x := ⟨_, List.getElem?_eq_getElem (by rw [Hbl.out]; omega)⟩
            have hxa0 := HLm.out xa (List.mem_of_getElem? hxa)
            have r0 := HMq.out.cell (hrc q xa hxa)
            have Hrc := Lib.hid hrc
            have Hxa := Lib.hid hxa
            have Hxa0 := Lib.hid hxa0
            clear hrc hxa hxa0 HS4
            go_wp2_with fail
            go_loopg [54] bl (fun gk i wx => ∃ p : Nat, p + gk = bl ∧ i = .int .i64 (p : Int) ∧ Hid (SetsNow wx bs g2 j ms (addPs (addPs (fun _ _ => false) (prodP (Lr.take q) Lr)) ((Lr.take p).map fun b => (xa, b)))) ∧ Hid (MapsOnly (fun k => k ∈ ms) W4 wx))
            case atStart => exact ⟨0, by omega, rfl, Lib.hid (by rw [List.take_zero, List.map_nil, addPs_nil]; exact HSq.out), HMq⟩
            case round =>
              obtain ⟨p, hp, rfl, HSp, HMp⟩ := hrel
              clear r0 HSq HMq
              rcases gk with _ | pk
              · have hpt : ¬ (p : Int) < (bl : Int) := by omega
                have HS9 : Hid (SetsNow wr bs g2 j ms (addPs (fun _ _ => false) (prodP (Lr.take (q + 1)) Lr))) := Lib.hid (by
                  have h := HSp.out
                  rw [show Lr.take p = Lr from List.take_of_length_le (by rw [Hbl.out]; omega)] at h
                  rw [prodP_take Hxa.out, addPs_app]
                  exact h)
                go_wp2_with fail
                go_roundg nk
                case measure => omega
                case rel => exact ⟨q + 1, by omega, by go_num, HS9, HMp⟩
              · have hpt : (p : Int) < (bl : Int) := by omega
                have hp0 : (0 : Int) ≤ (p : Int) := Int.natCast_nonneg p
                obtain ⟨xb, hxb⟩ : ∃ x, Lr[p]? = some x := ⟨_, List.getElem?_eq_getElem (by rw [Hbl.out]; omega)⟩
                have HCl := Lib.hid (OfClash_any bs g2 j ms _ xa xb wr hnr1 HSp.out Hxa0.out (HLm.out xb (List.mem_of_getElem? hxb)))
                have r0 := HMp.out.cell (Hrc.out p xb hxb)
                have f0 := HMp.out.cell (HF4.out.cell 0)
                have Hxb := Lib.hid hxb
                clear hxb
                go_wp2_with fail
                refine HCl.out.mono ?_
                rintro e w8 ⟨rfl, hs8, hm8⟩
                have HS8 : Hid (SetsNow w8 bs g2 j ms (addPs (addPs (fun _ _ => false) (prodP (Lr.take q) Lr)) ((Lr.take (p + 1)).map fun b => (xa, b)))) := Lib.hid (by
                  obtain ⟨h1, h2⟩ := List.getElem?_eq_some_iff.1 Hxb.out
                  rw [List.take_succ_eq_append_getElem h1, h2, List.map_append, addPs_app _ (List.map _ _)]
                  exact hs8)
                have HM8 : Hid (MapsOnly (fun k => k ∈ ms) W4 w8) := Lib.hid (HMp.out.trans hm8)
                clear hs8 hm8 r0 f0
                go_wp2_with fail
                go_roundg pk
                case measure => omega
                case rel => exact ⟨p + 1, by omega, by go_num, HS8, HM8⟩
      · have hjt : (j : Int) < (nr : Int) := by omega
        have hj0 : (0 : Int) ≤ (j : Int) := Int.natCast_nonneg j
        have HRa := HS.out.row.alloc (.map #[] 0)
        have hfzr := HRa.frozen j
        have s0 : (wr.alloc (.map #[] 0)).cell? ⟨g2, j, none⟩ = some (.map none) := (HRa.cell j).trans (by
          rw [List.getElem?_toArray, List.getElem?_append_right (by simp [HS.out.len]), List.length_map, HS.out.len, Nat.sub_self, List.getElem?_replicate, if_pos (by omega)])
        clear HRa
        have HS9 := Lib.hid (HS.out.step (show j < nr by omega) hg20)
        go_wp2_with fail
        go_roundg mk
        case measure => omega
        case rel => exact ⟨j + 1, _, by omega, by go_num, HS9⟩
  · have hub : (uc == 0) = false := by simpa using h0
    have HE : Hid (ofF gs fs k = []) := Lib.hid (by unfold ofF; rw [if_pos (by rw [Hun.out]; exact h0)])
    clear h0
    go_wp2_with fail
    go_region
    all_goals
      go_wp2_with fail
      refine end_tmp_cell rfl rfl (Blk.alloc (HX1.out.set2 _ _) _) Tryz.underlying28 rfl (by kernel_rfl) rfl (HP.out _ _ ⟨_, by rw [Hun.out], ?_, ?_⟩)
      · rw [HE.out]; exact RowsOwn.nil _ _
      · exact (below_drewN (Below.alloc (((HB1.out.setCell Hlg.out _).setCell Hlg.out _)) (by simp; exact HB1.out.size) _) 1)
end Go.Proofs.YtiknhfbkphoceaaGreatDoor
