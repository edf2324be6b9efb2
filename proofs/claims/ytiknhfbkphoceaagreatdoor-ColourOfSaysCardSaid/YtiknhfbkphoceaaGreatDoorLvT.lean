/-
  The reference's LiveReg.
  Conditions: as the theorems say.
-/
import Derived.Test.YtiknhfbkphoceaaGreatDoorLvS
namespace Go.Proofs.YtiknhfbkphoceaaGreatDoor
open Go.RowKit

theorem RNow.app {w wr w' : World} {gf : Nat} {fc : Array Value} {bs : List BlkU} {v v' : Value} {gs : List (Nat × Nat)} {O : Nat → Nat → Bool} {H : Nat} {g : Nat × Nat} (h : RNow w gf fc bs v gs O wr) (hg : w.heap.size ≤ g.1) (hs : Blk wr g.1 4 (boolsT [] (rowB g.2 (O gs.length)))) (hn : ∀ (i : Nat) (g' : Nat × Nat), gs[i]? = some g' → g'.1 ≠ g.1) (hl : g.2 = lenR bs gs.length + 1)
    (ha : Appended wr w.heap.size 52 1 v (gs.length + 1) (gs.map rowV ++ [rowV g]) H v' w') : RNow w gf fc bs v' (gs ++ [g]) O w' :=
  ⟨h.below.trans ha.below, h.far, ha.blk h.rows.own h.fn (by decide), h.rows.snoc hg hs hn ha, fun i q hq => by
    rcases Nat.lt_or_ge i gs.length with hi | hi
    · rw [List.getElem?_append_left hi] at hq
      exact h.len i q hq
    · rw [List.getElem?_append_right hi] at hq
      rcases Nat.eq_or_lt_of_le hi with he | he
      · rw [← he, Nat.sub_self] at hq
        simp only [List.getElem?_cons_zero, Option.some.injEq] at hq
        subst hq; rw [← he]; exact hl
      · rw [List.getElem?_eq_none (by simp; omega)] at hq
        cases hq⟩
theorem RNow.congr {w wr : World} {gf : Nat} {fc : Array Value} {bs : List BlkU} {v : Value} {gs : List (Nat × Nat)} {O Q : Nat → Nat → Bool} (h : RNow w gf fc bs v gs O wr) (e : ∀ i k, k ≤ lenR bs i → O i k = Q i k) : RNow w gf fc bs v gs Q wr :=
  ⟨h.below, h.far, h.fn, h.rows.congr fun i g hg k hk => e i k (by have := h.len i g hg; omega), h.len⟩
/-- One place of a block's row written anew. -/
theorem RNow.put {w wr : World} {gf : Nat} {fc : Array Value} {bs : List BlkU} {v : Value} {gs : List (Nat × Nat)} {Q : Nat → Nat → Bool} {r : Int} {i k : Nat} {g : Nat × Nat} {x : Bool} (h : RNow w gf fc bs v gs (putR bs r Q i (k + 1)) wr) (hg : gs[i]? = some g) (hk : k ≤ lenR bs i) (hx : x = newR bs r Q i k) :
    RNow w gf fc bs v gs (putR bs r Q i k) (wr.setCell ⟨g.1, k, none⟩ (.bool x)) := by
  refine (h.set (Q := fun i' q => if i' = i ∧ q = k then x else putR bs r Q i (k + 1) i' q) hg hk (fun _ _ => rfl)).congr fun i' q hq => ?_
  subst hx
  by_cases e : i' = i
  · subst e
    by_cases e2 : q = k
    · subst e2
      simp [putR]
    · rcases Nat.lt_or_ge q k with h1 | h1
      · simp [putR, e2, show ¬ (k + 1 ≤ q) by omega, show ¬ (k ≤ q) by omega]
      · simp [putR, e2, show k + 1 ≤ q by omega, h1]
  · simp [putR, e]
theorem putR_start {bs : List BlkU} {r : Int} {Q : Nat → Nat → Bool} {i : Nat} (i' q : Nat) (hq : q ≤ lenR bs i') : Q i' q = putR bs r Q i (lenR bs i + 1) i' q := by
  unfold putR
  split
  · rename_i e
    obtain ⟨rfl, h⟩ := e
    omega
  · rfl
/-- What the mark says while a block's row is written. -/
def FlagR (bs : List BlkU) (r : Int) (Q : Nat → Nat → Bool) (i c0 : Nat) (u m : Value) (k : Nat) : Prop :=
  (m = u ∧ ∀ q, k ≤ q → q ≤ lenR bs i → newR bs r Q i q = true → Q i q = true) ∨ (m = .bool true ∧ c0 < cntR bs (putR bs r Q i k))
theorem FlagR.start (bs : List BlkU) (r : Int) (Q : Nat → Nat → Bool) (i c0 : Nat) (u : Value) : FlagR bs r Q i c0 u u (lenR bs i + 1) := .inl ⟨rfl, fun q h1 h2 => by omega⟩
theorem FlagR.step {bs : List BlkU} {r : Int} {Q : Nat → Nat → Bool} {i c0 k : Nat} {u m m' : Value} (hg : GoodR bs r Q) (hi : i < bs.length) (hk : k ≤ lenR bs i) (hc : c0 ≤ cntR bs Q) (h : FlagR bs r Q i c0 u m (k + 1)) (hm : m' = if (newR bs r Q i k && !Q i k) = true then .bool true else m) : FlagR bs r Q i c0 u m' k := by
  subst hm
  by_cases e : (newR bs r Q i k && !Q i k) = true
  · rw [if_pos e]
    simp only [Bool.and_eq_true, Bool.not_eq_true'] at e
    refine .inr ⟨rfl, Nat.lt_of_le_of_lt hc (cntR_less (putR_ge hg i k) hi hk e.2 ?_)⟩
    unfold putR
    rw [if_pos ⟨rfl, Nat.le_refl _⟩]
    exact e.1
  · rw [if_neg e]
    rcases h with ⟨h1, h2⟩ | ⟨h1, h2⟩
    · refine .inl ⟨h1, fun q hq1 hq2 hn => ?_⟩
      rcases Nat.eq_or_lt_of_le hq1 with e2 | e2
      · subst e2
        rw [hn] at e
        simpa using e
      · exact h2 q e2 hq2 hn
    · refine .inr ⟨h1, Nat.lt_of_lt_of_le h2 (cntR_up fun i' q hp => ?_)⟩
      unfold putR at hp ⊢
      split at hp
      · rename_i e3
        rw [if_pos ⟨e3.1, by omega⟩]
        exact hp
      · split
        · rename_i e4
          obtain ⟨rfl, _⟩ := e4
          exact hg.up _ _ hp
        · exact hp
/-- A block's row has been written. -/
theorem FlagR.done {bs : List BlkU} {r : Int} {Q : Nat → Nat → Bool} {i c0 : Nat} {u m : Value} (hg : GoodR bs r Q) (h : FlagR bs r Q i c0 u m 0) (hs : (u = .bool false ∧ c0 ≤ cntR bs Q ∧ DoneR bs r Q (i + 1)) ∨ (u = .bool true ∧ c0 < cntR bs Q)) :
    (m = .bool false ∧ c0 ≤ cntR bs (putR bs r Q i 0) ∧ DoneR bs r (putR bs r Q i 0) i) ∨ (m = .bool true ∧ c0 < cntR bs (putR bs r Q i 0)) := by
  have hmono : cntR bs Q ≤ cntR bs (putR bs r Q i 0) := cntR_up (putR_ge hg i 0)
  rcases h with ⟨rfl, h2⟩ | ⟨rfl, h2⟩
  · rcases hs with ⟨rfl, h3, h4⟩ | ⟨rfl, h3⟩
    · exact .inl ⟨rfl, by omega, h4.put hg (fun k hk hn => h2 k (Nat.zero_le _) hk hn)⟩
    · exact .inr ⟨rfl, by omega⟩
  · exact .inr ⟨rfl, h2⟩
/-- What the reference's LiveReg comes to. -/
def LRPost (w : World) (bs : List BlkU) (r : Int) (e : Ending) (w' : World) : Prop :=
  ∃ v gs, e = .returned v ∧ BoolsOwn w' w.heap.size v gs (fun i k => atU bs i k r) ∧ gs.length = bs.length ∧ (∀ i g, gs[i]? = some g → g.2 = lenR bs i + 1) ∧ Below w.heap.size w w'
set_option maxRecDepth 100000 in
set_option maxHeartbeats 8000000 in
theorem LiveReg_any (nm : ByteArray) (ps regs : Int) (bA : Option Addr) (bl bc : Nat) (blocks : List BlkU) (r : Int) (w : World) (hb : BlksAt w w.heap.size (.slice bA bl bc) blocks) (hbl : bl ≤ 40) (hto : ∀ b ∈ blocks, ∀ t ∈ b.to, 0 ≤ t ∧ t < (blocks.length : Int)) :
    Calls Tryz.prog 22 #[.agg #[.string nm, .int .i64 ps, .int .i64 regs, .slice bA bl bc], .int .i64 r] w (LRPost w blocks r) := by
  have HBl := Lib.hid hb
  have hlen := SlAt.len hb
  have HL := Lib.hid hlen
  have HTo := Lib.hid hto
  have HN0 : Hid (RNow w w.heap.size #[.string nm, .int .i64 ps, .int .i64 regs, .slice bA bl bc] blocks (.slice none 0 0) [] (fun _ _ => false) (w.alloc (.cells #[.string nm, .int .i64 ps, .int .i64 regs, .slice bA bl bc] 43))) := Lib.hid ⟨(Below.refl _ _).alloc (Nat.le_refl _) _, Nat.le_refl _, Blk.new _ _ _, BoolsOwn.nil _ _ _, fun i g h => by simp at h⟩
  clear hb hlen hto
  go_enter Tryz.func22, Tryz.ntmps22
  go_upto_region 1 with fail
  generalize w.alloc (.cells #[.string nm, .int .i64 ps, .int .i64 regs, .slice bA bl bc] 43) = W0 at *
  go_wp2_with fail
  go_loopg [5, 6] bl (fun gk v i wr => ∃ (j : Nat) (gs : List (Nat × Nat)), j + gk = bl ∧ i = .int .i64 (j : Int) ∧ gs.length = j ∧ Hid (RNow w w.heap.size #[.string nm, .int .i64 ps, .int .i64 regs, .slice bA bl bc] blocks v gs (fun _ _ => false) wr))
  case atStart => exact ⟨0, [], by omega, rfl, rfl, HN0⟩
  case round =>
    obtain ⟨j, gs, hj, rfl, hgl, HN⟩ := hrel
    clear HN0
    have c3 := HN.out.fn.cell 3
    subst hgl
    obtain ⟨A, c, rfl⟩ := HN.out.rows.form
    rcases gk with _ | mk
    · have e : gs.length = bl := by omega
      have hjt : ¬ ((gs.length : Nat) : Int) < (bl : Int) := by omega
      have HE : Hid (gs.length = bl) := Lib.hid e
      rw [e] at HN
      have HG0 : Hid (GoodR blocks r (fun _ _ => false)) := Lib.hid (GoodR.none _ _)
      clear hj
      go_wp2_with fail
      clear hjt e c3
      have HP : Hid (∀ (O : Nat → Nat → Bool) (wx : World), RNow w w.heap.size #[.string nm, .int .i64 ps, .int .i64 regs, .slice bA bl bc] blocks (.slice A bl c) gs O wx → (∀ i, i < blocks.length → ∀ k, k ≤ lenR blocks i → O i k = atU blocks i k r) → LRPost w blocks r (.returned (.slice A bl c)) wx) := Lib.hid (fun O wx h hO => ⟨_, gs, rfl, h.rows.congr (fun i g hg k hk => hO i (by have := (List.getElem?_eq_some_iff.1 hg).1; rw [HE.out] at this; rw [HL.out]; exact this) k (by have := h.len i g hg; omega)), by rw [HL.out]; exact HE.out, h.len, h.below⟩)
      go_loopg [7] ((placesR blocks).length + 1) (fun gk m wr => ∃ O, Hid (RNow w w.heap.size #[.string nm, .int .i64 ps, .int .i64 regs, .slice bA bl bc] blocks (.slice A bl c) gs O wr) ∧ Hid (GoodR blocks r O) ∧ ((m = .bool true ∧ (placesR blocks).length + 1 ≤ gk + cntR blocks O) ∨ (m = .bool false ∧ Hid (DoneR blocks r O 0))))
      case atStart => exact ⟨_, HN, HG0, .inl ⟨rfl, by omega⟩⟩
      case round =>
        obtain ⟨O, HO, HG, hst⟩ := hrel
        clear HN HG0
        rcases hst with ⟨rfl, hms⟩ | ⟨rfl, HD⟩
        · have hcl := cntR_le blocks O
          obtain ⟨og, rfl⟩ : ∃ m', gk = m' + 1 := ⟨gk - 1, by omega⟩
          obtain ⟨c0, hc0⟩ : ∃ c0, cntR blocks O = c0 := ⟨_, rfl⟩
          rw [hc0] at hms hcl
          have Hc0 : Hid (c0 ≤ cntR blocks O) := Lib.hid (by omega)
          clear hc0
          have c3 := HO.out.fn.cell 3
          go_wp2_with fail
          go_loopg [7, 8] bl (fun gj m i wx => ∃ Q, gj ≤ bl ∧ i = .int .i64 ((gj : Int) - 1) ∧ Hid (RNow w w.heap.size #[.string nm, .int .i64 ps, .int .i64 regs, .slice bA bl bc] blocks (.slice A bl c) gs Q wx) ∧ Hid (GoodR blocks r Q) ∧ ((m = .bool false ∧ Hid (c0 ≤ cntR blocks Q) ∧ Hid (DoneR blocks r Q gj)) ∨ (m = .bool true ∧ Hid (c0 < cntR blocks Q))))
          case atStart => exact ⟨O, Nat.le_refl _, rfl, HO, HG, .inl ⟨rfl, Hc0, Lib.hid (fun i h1 h2 => by rw [HL.out] at h2; omega)⟩⟩
          case round =>
            obtain ⟨Q, hjb, rfl, HQ, HGQ, hsq⟩ := hrel
            clear c3 HO HG Hc0
            rcases gk with _ | i
            · have hneg : ¬ ((0 : Int) ≤ ((0 : Nat) : Int) - 1) := by omega
              rcases hsq with ⟨rfl, Hc, HD⟩ | ⟨rfl, Hc⟩
              · go_wp2_with fail
                go_roundg og
                case measure => omega
                case rel => exact ⟨Q, HQ, HGQ, .inr ⟨rfl, HD⟩⟩
              · go_wp2_with fail
                go_roundg og
                case measure => omega
                case rel => exact ⟨Q, HQ, HGQ, .inl ⟨rfl, by have := Hc.out; omega⟩⟩
            · have hm : (((i + 1 : Nat) : Int) - 1) = (i : Int) := by omega
              simp only [hm]
              clear hm
              have hi0 : (0 : Int) ≤ (i : Int) := Int.natCast_nonneg i
              have hi1 : (i : Int) < (bl : Int) := by omega
              have hib : i < bl := by omega
              obtain ⟨bb, bo, b, pA, pc, lA, lc, tA, tc, rfl, hbb, hbi, p0, p1, p2, p3, p4, p5, _, hli, hti⟩ := BlksAt.one HBl.out hib
              have p0 := (bcell HQ.out.below hbb).trans p0
              have p1 := (bcell HQ.out.below hbb).trans p1
              have p2 := (bcell HQ.out.below hbb).trans p2
              have p3 := (bcell HQ.out.below hbb).trans p3
              have p4 := (bcell HQ.out.below hbb).trans p4
              have p5 := (bcell HQ.out.below hbb).trans p5
              have hbbr : bb < wr.heap.size := Nat.lt_of_lt_of_le hbb HQ.out.below.size
              have Hbi := Lib.hid hbi
              obtain ⟨ll, hll⟩ : ∃ ll, b.list.length = ll := ⟨_, rfl⟩
              obtain ⟨tl, htl⟩ : ∃ tl, b.to.length = tl := ⟨_, rfl⟩
              rw [hll] at p1 hli
              rw [htl] at p5 hti
              have Hll : Hid (lenR blocks i = ll) := Lib.hid (by rw [lenR_some hbi, hll])
              have Hll2 := Lib.hid hll
              have Htl := Lib.hid htl
              have HLI := Lib.hid hli
              have HTI := Lib.hid hti
              have hll63 : ll ≤ 140737488351232 := by
                obtain ⟨_, _, e, h1, h2⟩ := SlAt.form hli
                cases e
                omega
              have hll0 : (0 : Int) ≤ (ll : Int) := Int.natCast_nonneg _
              have htl63 : tl ≤ 9223372036854775807 := by
                obtain ⟨_, _, e, h1, h2, _⟩ := hti
                cases e
                omega
              have HTb : Hid (∀ t ∈ b.to, 0 ≤ t ∧ t < (bl : Int)) := Lib.hid (fun t ht => by have := HTo.out b (List.mem_of_getElem? hbi) t ht; rw [HL.out] at this; exact this)
              have HQ1 := Lib.hid (HQ.out.next ((Below.refl _ _).alloc (Nat.le_refl _) (.cells #[.slice pA b.phis.length pc, .slice lA ll lc, .int .i64 b.kind, .bool b.on.reg, .int .i64 b.on.n, .slice tA tl tc] 78)))
              have HX1 := Lib.hid (Blk.new wr 78 #[.slice pA b.phis.length pc, .slice lA ll lc, .int .i64 b.kind, .bool b.on.reg, .int .i64 b.on.n, .slice tA tl tc])
              have c3 := HQ.out.fn.cell 3
              clear hbi hll htl hli hti HQ
              go_upto_region 13 with fail
              clear p0 p1 p2 p3 p4 p5 c3
              generalize wr.alloc (.cells #[.slice pA b.phis.length pc, .slice lA ll lc, .int .i64 b.kind, .bool b.on.reg, .int .i64 b.on.n, .slice tA tl tc] 78) = W1 at *
              generalize wr.heap.size = gx at *
              have x1 := HX1.out.cell 1
              have x3 := HX1.out.cell 3
              have x4 := HX1.out.cell 4
              have x5 := HX1.out.cell 5
              have HD0 : Hid (decide (r ∈ occV b.on) = (b.on.reg && (b.on.n == r))) := Lib.hid (by
                rw [Bool.eq_iff_iff]
                simp only [decide_eq_true_eq, occV_mem, Bool.and_eq_true, beq_iff_eq])
              go_upto_region 14 with fail
              go_cut [11] from 50 to 61 (fun s wx => s = .bool (decide (r ∈ occV b.on)) ∧ wx = W1)
              case first =>
                rcases Bool.eq_false_or_eq_true b.on.reg with hreg | hreg
                · rw [hreg] at x3
                  have HR : Hid (decide (r ∈ occV b.on) = (b.on.n == r)) := Lib.hid (by rw [HD0.out, hreg]; simp)
                  clear hreg
                  go_wp2_with fail
                  go_meet
                  exact ⟨ret_bool' HR.out.symm, rfl⟩
                · rw [hreg] at x3
                  have HR : Hid (decide (r ∈ occV b.on) = false) := Lib.hid (by rw [HD0.out, hreg]; simp)
                  clear hreg
                  go_wp2_with fail
                  go_meet
                  exact ⟨ret_bool' HR.out.symm, rfl⟩
              case rest =>
                obtain ⟨rfl, rfl⟩ := hcut
                clear x3 x4 HD0
                obtain ⟨E0, hE0⟩ : ∃ E0, decide (r ∈ occV b.on) = E0 := ⟨_, rfl⟩
                have HE0 := Lib.hid hE0
                rw [hE0]
                clear hE0
                go_wp2_with fail
                go_loopg [11, 12] tl (fun gk is kk wx => ∃ q : Nat, q + gk = tl ∧ kk = .int .i64 (q : Int) ∧ is = .bool (E0 || (b.to.take q).any fun t => Q t.toNat 0) ∧ wx = wc)
                case atStart => exact ⟨0, by omega, rfl, by simp, rfl⟩
                case round =>
                  obtain ⟨q, hq, rfl, rfl, rfl⟩ := hrel
                  rcases gk with _ | nk
                  · have hqt : ¬ (q : Int) < (tl : Int) := by omega
                    have HEn : Hid ((E0 || (b.to.take q).any fun t => Q t.toNat 0) = newR blocks r Q i ll) := Lib.hid (by
                      rw [newR_some Hbi.out, List.take_of_length_le (by rw [Htl.out]; omega), ← Hll2.out, List.drop_length, ← HE0.out]
                      rfl)
                    obtain ⟨En, hEn⟩ : ∃ En, (E0 || (b.to.take q).any fun t => Q t.toNat 0) = En := ⟨_, rfl⟩
                    rw [hEn] at HEn ⊢
                    clear hEn x5
                    have hsq2 : (u7 = .bool false ∧ c0 ≤ cntR blocks Q ∧ DoneR blocks r Q (i + 1)) ∨ (u7 = .bool true ∧ c0 < cntR blocks Q) := by
                      rcases hsq with ⟨h1, h2, h3⟩ | ⟨h1, h2⟩
                      · exact .inl ⟨h1, h2.out, h3.out⟩
                      · exact .inr ⟨h1, h2.out⟩
                    have Hsq := Lib.hid hsq2
                    have Hcq : Hid (c0 ≤ cntR blocks Q) := Lib.hid (by rcases hsq2 with ⟨_, h, _⟩ | ⟨_, h⟩ <;> omega)
                    clear hsq hsq2
                    have x5 := HX1.out.cell 5
                    obtain ⟨g0, gi, rfl, hgi, s0, _, hbi⟩ := HQ1.out.rows.cell hib
                    have hgl := HQ1.out.len i gi hgi
                    obtain ⟨gi1, gi2⟩ := gi
                    simp only [rowV] at s0 hbi hgl
                    have hgl2 : gi2 = ll + 1 := by rw [hgl, Hll.out]
                    subst hgl2
                    have b0 := (hbi.cell ll).trans (boolsT_at (rowB_at (f := Q i) (show ll < ll + 1 by omega)))
                    have f0 := hbi.frozen ll
                    have hl1 : (ll : Int) < (ll : Int) + 1 := by omega
                    have hl63 : (ll : Int) + 1 ≤ 9223372036854775807 := by omega
                    have HF0 : Hid (∀ m, m = (if (En && !Q i ll) = true then Value.bool true else u7) → FlagR blocks r Q i c0 u7 m ll) := Lib.hid (fun m hm => by
                      have h := FlagR.start blocks r Q i c0 u7
                      rw [Hll.out] at h
                      exact h.step HGQ.out (by rw [HL.out]; exact hib) (by rw [Hll.out]; exact Nat.le_refl _) Hcq.out (by rw [← HEn.out]; exact hm))
                    have HR0 : Hid (RNow w w.heap.size #[.string nm, .int .i64 ps, .int .i64 regs, .slice (some ⟨bb, bo, none⟩) bl bc] blocks (.slice (some ⟨g0, 0, none⟩) bl c) gs (putR blocks r Q i ll) (wr.setCell ⟨gi1, ll, none⟩ (.bool En))) := Lib.hid ((HQ1.out.congr (fun i' k hk => by rw [← Hll.out]; exact putR_start i' k hk)).put hgi (by rw [Hll.out]; exact Nat.le_refl _) HEn.out)
                    have HX0 := Lib.hid (HQ1.out.blk (k := ll) (x := .bool En) hgi HX1.out (by decide))
                    have Hgi := Lib.hid hgi
                    obtain ⟨qv, hqv⟩ : ∃ qv, Q i ll = qv := ⟨_, rfl⟩
                    rw [hqv] at b0 HF0
                    clear hqv
                    go_upto_region 19 with fail
                    go_cut [94] from 84 to 93 (fun s wx => s = .bool (En && !qv) ∧ wx = wr)
                    case first =>
                      clear HF0 HR0 HX0 HEn
                      cases En with
                      | false =>
                        go_wp2_with fail
                        go_meet
                        exact ⟨by simp, rfl⟩
                      | true =>
                        cases qv with
                        | false =>
                          go_wp2_with fail
                          go_meet
                          exact ⟨by simp, rfl⟩
                        | true =>
                          go_wp2_with fail
                          go_meet
                          exact ⟨by simp, rfl⟩
                    case rest =>
                      obtain ⟨rfl, rfl⟩ := hcut
                      obtain ⟨ev, hev⟩ : ∃ ev, (En && !qv) = ev := ⟨_, rfl⟩
                      rw [hev] at HF0 ⊢
                      clear hev
                      go_upto_if 94 with fail
                      go_cut [7] (fun s wx => s = (if ev = true then Value.bool true else u7) ∧ wx = wc)
                      case first =>
                        clear HF0 HR0 HX0 HEn
                        cases ev with
                        | false =>
                          go_wp2_with fail
                          go_meet
                          exact ⟨by simp, rfl⟩
                        | true =>
                          go_wp2_with fail
                          go_meet
                          exact ⟨by simp, rfl⟩
                      case rest =>
                        obtain ⟨rfl, rfl⟩ := hcut
                        have HFn := Lib.hid (HF0.out _ rfl)
                        generalize (if ev = true then Value.bool true else u7) = mn at *
                        clear HF0
                        go_upto_region 22 with fail
                        clear s0 b0 f0 hbi x1 x5
                        generalize wc.setCell ⟨gi1, ll, none⟩ (.bool En) = W2 at *
                        rw [HEn.out]
                        clear HEn
                        go_wp2_with fail
                        obtain ⟨FL, hFL⟩ : ∃ FL : Value → Nat → Prop, FL = fun m k => FlagR blocks r Q i c0 u7 m k := ⟨_, rfl⟩
                        have HStep : Hid (∀ m m' k, k ≤ ll → FL m (k + 1) → m' = (if (newR blocks r Q i k && !Q i k) = true then Value.bool true else m) → FL m' k) := Lib.hid (fun m m' k hk h hm => by
                          subst hFL
                          exact FlagR.step HGQ.out (by rw [HL.out]; exact hib) (by rw [Hll.out]; exact hk) Hcq.out h hm)
                        have HDone : Hid (∀ m, FL m 0 → (m = .bool false ∧ c0 ≤ cntR blocks (putR blocks r Q i 0) ∧ DoneR blocks r (putR blocks r Q i 0) i) ∨ (m = .bool true ∧ c0 < cntR blocks (putR blocks r Q i 0))) := Lib.hid (fun m h => by
                          subst hFL
                          exact FlagR.done HGQ.out h Hsq.out)
                        have HFn2 : Hid (FL mn ll) := Lib.hid (by rw [hFL]; exact HFn.out)
                        clear hFL HFn
                        go_loopg [7, 11, 13] ll (fun gk m is kk wx => kk = .int .i64 ((gk : Int) - 1) ∧ gk ≤ ll ∧ is = .bool (newR blocks r Q i gk) ∧ Hid (RNow w w.heap.size #[.string nm, .int .i64 ps, .int .i64 regs, .slice (some ⟨bb, bo, none⟩) bl bc] blocks (.slice (some ⟨g0, 0, none⟩) bl c) gs (putR blocks r Q i gk) wx) ∧ Hid (Blk wx gx 78 #[.slice pA b.phis.length pc, .slice lA ll lc, .int .i64 b.kind, .bool b.on.reg, .int .i64 b.on.n, .slice tA tl tc]) ∧ Hid (FL m gk))
                        case atStart => exact ⟨rfl, Nat.le_refl _, rfl, HR0, HX0, HFn2⟩
                        case round =>
                          obtain ⟨rfl, hkl, rfl, HRk, HXk, HFk⟩ := hrel
                          clear HR0 HX0 HFn2
                          rcases gk with _ | kk
                          · have hneg : ¬ ((0 : Int) ≤ ((0 : Nat) : Int) - 1) := by omega
                            have hd := Lib.hid (HDone.out _ HFk.out)
                            have HGn := Lib.hid (HGQ.out.put i 0)
                            go_wp2_with fail
                            go_roundg i
                            case measure => omega
                            case rel =>
                              refine ⟨putR blocks r Q i 0, by omega, by go_num, HRk, HGn, ?_⟩
                              rcases hd.out with ⟨h1, h2, h3⟩ | ⟨h1, h2⟩
                              · exact .inl ⟨h1, Lib.hid h2, Lib.hid h3⟩
                              · exact .inr ⟨h1, Lib.hid h2⟩
                          · have hm : (((kk + 1 : Nat) : Int) - 1) = (kk : Int) := by omega
                            simp only [hm]
                            clear hm
                            have hk0 : (0 : Int) ≤ (kk : Int) := Int.natCast_nonneg kk
                            have hk1 : (kk : Int) < (ll : Int) := by omega
                            obtain ⟨ib, io, x, aA, ac, rfl, hib2, hxk, i0, i1, i2, i3, i4, i5, i6, i7, hop⟩ := InssAt.one HLI.out (show kk < ll by omega)
                            have i0 := (bcell HRk.out.below hib2).trans i0
                            have i1 := (bcell HRk.out.below hib2).trans i1
                            have i2 := (bcell HRk.out.below hib2).trans i2
                            have i3 := (bcell HRk.out.below hib2).trans i3
                            have i4 := (bcell HRk.out.below hib2).trans i4
                            have i5 := (bcell HRk.out.below hib2).trans i5
                            have i6 := (bcell HRk.out.below hib2).trans i6
                            have i7 := (bcell HRk.out.below hib2).trans i7
                            have Hi1 := Lib.hid i1
                            have hib3 : ib < wr.heap.size := Nat.lt_of_lt_of_le hib2 HRk.out.below.size
                            have x1 := HXk.out.cell 1
                            have HNk : Hid (newR blocks r Q i kk = (takesU x r || (newR blocks r Q i (kk + 1) && decide (x.dst ≠ r)))) := Lib.hid (by
                              rw [newR_some Hbi.out, newR_some Hbi.out, List.drop_eq_getElem_cons (List.getElem?_eq_some_iff.1 hxk).1, (List.getElem?_eq_some_iff.1 hxk).2]
                              rfl)
                            have HTk := Lib.hid (Takes_any x.op x.dst x.a.reg x.b.reg x.a.n x.b.n x.fn aA x.args.length ac x.args r wr (hop.move HRk.out.below.size (kept_of HRk.out.below (Nat.le_refl _))))
                            obtain ⟨en, hen⟩ : ∃ en, newR blocks r Q i (kk + 1) = en := ⟨_, rfl⟩
                            rw [hen] at HNk ⊢
                            clear hen hxk hop
                            go_upto_region 25 with fail
                            go_cut [11] from 108 to 127 (fun s wx => s = .bool (newR blocks r Q i kk) ∧ Hid (RNow w w.heap.size #[.string nm, .int .i64 ps, .int .i64 regs, .slice (some ⟨bb, bo, none⟩) bl bc] blocks (.slice (some ⟨g0, 0, none⟩) bl c) gs (putR blocks r Q i (kk + 1)) wx) ∧ Hid (Blk wx gx 78 #[.slice pA b.phis.length pc, .slice (some ⟨ib, io, none⟩) ll lc, .int .i64 b.kind, .bool b.on.reg, .int .i64 b.on.n, .slice tA tl tc]))
                            case first =>
                              go_wp2_with fail
                              refine HTk.out.mono ?_
                              rintro e w3 ⟨rfl, hb3⟩
                              have HR3 := Lib.hid (HRk.out.next hb3)
                              have HX3 := Lib.hid (HXk.out.below hb3 HXk.out.lt)
                              have x1 := HX3.out.cell 1
                              have i1 := (bcell hb3 hib3).trans Hi1.out
                              have hib4 : ib < w3.heap.size := Nat.lt_of_lt_of_le hib3 hb3.size
                              obtain ⟨tk, htk⟩ : ∃ tk, takesU x r = tk := ⟨_, rfl⟩
                              rw [htk] at HNk ⊢
                              clear htk hb3 HRk HXk HFk i0 i2 i3 i4 i5 i6 i7
                              cases tk with
                              | true =>
                                have HV : Hid (newR blocks r Q i kk = true) := Lib.hid (by rw [HNk.out]; rfl)
                                go_wp2_with fail
                                go_meet
                                exact ⟨ret_bool' HV.out.symm, HR3, HX3⟩
                              | false =>
                                cases en with
                                | true =>
                                  have HV : Hid (newR blocks r Q i kk = (x.dst != r)) := Lib.hid (by rw [HNk.out]; by_cases h : x.dst = r <;> simp [h])
                                  go_wp2_with fail
                                  go_meet
                                  exact ⟨ret_bool' HV.out.symm, HR3, HX3⟩
                                | false =>
                                  have HV : Hid (newR blocks r Q i kk = false) := Lib.hid (by rw [HNk.out]; rfl)
                                  go_wp2_with fail
                                  go_meet
                                  exact ⟨ret_bool' HV.out.symm, HR3, HX3⟩
                            case rest =>
                              obtain ⟨rfl, HR3, HX3⟩ := hcut
                              clear HRk HXk HTk HNk i0 i1 i2 i3 i4 i5 i6 i7 x1 Hi1 hib3
                              obtain ⟨g0', gi', eA, hgi', s0, _, hbi⟩ := HR3.out.rows.cell hib
                              cases eA
                              obtain rfl : (gi1, ll + 1) = gi' := by rw [Hgi.out] at hgi'; exact Option.some.inj hgi'
                              simp only [rowV] at s0 hbi
                              have b0 := (hbi.cell kk).trans (boolsT_at (rowB_at (f := putR blocks r Q i (kk + 1) i) (show kk < ll + 1 by omega)))
                              have hpq : putR blocks r Q i (kk + 1) i kk = Q i kk := by unfold putR; rw [if_neg (by omega)]
                              rw [hpq] at b0
                              have f0 := hbi.frozen kk
                              have hk2 : (kk : Int) < (ll : Int) + 1 := by omega
                              have HF0 : Hid (∀ m, m = (if (newR blocks r Q i kk && !Q i kk) = true then Value.bool true else u7) → FL m kk) := Lib.hid (fun m hm => HStep.out u7 m kk (by omega) HFk.out hm)
                              have HR0 : Hid (RNow w w.heap.size #[.string nm, .int .i64 ps, .int .i64 regs, .slice (some ⟨bb, bo, none⟩) bl bc] blocks (.slice (some ⟨g0, 0, none⟩) bl c) gs (putR blocks r Q i kk) (wc.setCell ⟨gi1, kk, none⟩ (.bool (newR blocks r Q i kk)))) := Lib.hid (HR3.out.put Hgi.out (by rw [Hll.out]; omega) rfl)
                              have HX0 := Lib.hid (HR3.out.blk (k := kk) (x := .bool (newR blocks r Q i kk)) Hgi.out HX3.out (by decide))
                              obtain ⟨qv, hqv⟩ : ∃ qv, Q i kk = qv := ⟨_, rfl⟩
                              obtain ⟨vn, hvn⟩ : ∃ vn, newR blocks r Q i kk = vn := ⟨_, rfl⟩
                              have HVn := Lib.hid hvn
                              rw [hqv] at b0 HF0
                              rw [hvn] at HF0 HR0 HX0 ⊢
                              clear hqv hvn hpq hgi' HFk
                              go_upto_region 26 with fail
                              go_cut [138] from 128 to 137 (fun s wx => s = .bool (vn && !qv) ∧ wx = wc)
                              case first =>
                                clear HF0 HR0 HX0 HVn
                                cases vn with
                                | false =>
                                  go_wp2_with fail
                                  go_meet
                                  exact ⟨by simp, rfl⟩
                                | true =>
                                  cases qv with
                                  | false =>
                                    go_wp2_with fail
                                    go_meet
                                    exact ⟨by simp, rfl⟩
                                  | true =>
                                    go_wp2_with fail
                                    go_meet
                                    exact ⟨by simp, rfl⟩
                              case rest =>
                                obtain ⟨rfl, rfl⟩ := hcut
                                obtain ⟨ev2, hev⟩ : ∃ ev2, (vn && !qv) = ev2 := ⟨_, rfl⟩
                                rw [hev] at HF0 ⊢
                                clear hev
                                go_upto_if 138 with fail
                                go_cut [7] (fun s wx => s = (if ev2 = true then Value.bool true else u7) ∧ wx = wc)
                                case first =>
                                  clear HF0 HR0 HX0 HVn
                                  cases ev2 with
                                  | false =>
                                    go_wp2_with fail
                                    go_meet
                                    exact ⟨by simp, rfl⟩
                                  | true =>
                                    go_wp2_with fail
                                    go_meet
                                    exact ⟨by simp, rfl⟩
                                case rest =>
                                  obtain ⟨rfl, rfl⟩ := hcut
                                  have HFm := Lib.hid (HF0.out _ rfl)
                                  generalize (if ev2 = true then Value.bool true else u7) = mm at *
                                  clear HF0
                                  go_wp2_with fail
                                  go_roundg kk
                                  case measure => omega
                                  case rel => exact ⟨by go_num, by omega, ret_bool' HVn.out.symm, HR0, HX0, HFm⟩
                  · have hqt : (q : Int) < (tl : Int) := by omega
                    have hq0 : (0 : Int) ≤ (q : Int) := Int.natCast_nonneg q
                    obtain ⟨t, ht⟩ : ∃ t, b.to[q]? = some t := ⟨b.to[q]'(by rw [Htl.out]; omega), List.getElem?_eq_getElem _⟩
                    obtain ⟨ht0, ht1⟩ := HTb.out t (List.mem_of_getElem? ht)
                    obtain ⟨m, rfl⟩ : ∃ m : Nat, t = (m : Int) := ⟨t.toNat, by omega⟩
                    have hml : m < bl := by omega
                    obtain ⟨A', c', eA, _, _, h3⟩ := HTI.out
                    obtain ⟨tb, toff, hA, htb, htc'⟩ := h3 (by rw [Htl.out]; omega)
                    obtain rfl : A' = tA := ((Value.slice.inj eA).1).symm
                    subst hA
                    have d0 := (bcell HQ1.out.below htb).trans (htc' q _ ht)
                    obtain ⟨g0, gm, rfl, hgm, s0, _, hbm⟩ := HQ1.out.rows.cell hml
                    have hlm := HQ1.out.len m gm hgm
                    obtain ⟨gm1, gm2⟩ := gm
                    simp only [rowV] at s0 hbm hlm
                    have hgm0 : (0 : Int) < (gm2 : Int) := by omega
                    have b0 := (hbm.cell 0).trans (boolsT_at (rowB_at (f := Q m) (show 0 < gm2 by omega)))
                    have HQt : Hid (∀ e : Bool, (e = (E0 || (b.to.take q).any fun t => Q t.toNat 0)) → ((e || Q m 0) = (E0 || (b.to.take (q + 1)).any fun t => Q t.toNat 0))) := Lib.hid (fun e he => by
                      have hlt := (List.getElem?_eq_some_iff.1 ht).1
                      rw [List.take_succ_eq_append_getElem hlt, (List.getElem?_eq_some_iff.1 ht).2, List.any_append, he, Bool.or_assoc]
                      simp)
                    obtain ⟨e1, he1⟩ : ∃ e1, (E0 || (b.to.take q).any fun t => Q t.toNat 0) = e1 := ⟨_, rfl⟩
                    have HQt := Lib.hid (HQt.out e1 he1.symm)
                    rw [he1]
                    clear eA h3 htc' ht hgm hbm he1
                    cases e1 with
                    | true =>
                      have HQ2 : Hid ((E0 || (b.to.take (q + 1)).any fun t => Q t.toNat 0) = true) := Lib.hid (by rw [← HQt.out]; rfl)
                      go_wp2_with fail
                      go_roundg nk
                      case measure => omega
                      case rel => exact ⟨q + 1, by omega, by go_num, ret_bool' HQ2.out.symm, rfl⟩
                    | false =>
                      have HQ2 : Hid ((E0 || (b.to.take (q + 1)).any fun t => Q t.toNat 0) = Q m 0) := Lib.hid (by rw [← HQt.out]; rfl)
                      go_wp2_with fail
                      go_roundg nk
                      case measure => omega
                      case rel => exact ⟨q + 1, by omega, by go_num, ret_bool' HQ2.out.symm, rfl⟩
        · have HF := Lib.hid (doneR_all HG.out HD.out)
          go_wp2_with fail
          go_ret
          exact HP.out O _ HO.out HF.out
    · have hjt : ((gs.length : Nat) : Int) < (bl : Int) := by omega
      have hj0 : (0 : Int) ≤ ((gs.length : Nat) : Int) := Int.natCast_nonneg _
      have hjl : gs.length < bl := by omega
      obtain ⟨bb, bo, b, pA, pc, lA, lc, tA, tc, rfl, hbb, hbj, _, p1, _, _, _, _, _, hli, _⟩ := BlksAt.one HBl.out hjl
      have p1 := (bcell HN.out.below hbb).trans p1
      obtain ⟨ll, hll⟩ : ∃ ll, b.list.length = ll := ⟨_, rfl⟩
      rw [hll] at p1 hli
      have hll47 : ll ≤ 140737488351232 := by
        obtain ⟨_, _, e, h1, h2⟩ := SlAt.form hli
        cases e
        omega
      have Hlr : Hid (lenR blocks gs.length = ll) := Lib.hid (by rw [lenR_some hbj, hll])
      have hmk : ∀ W : World, (Instr.makeSlice 52 (.int .i64 ((ll : Int) + 1)) (.int .i64 ((ll : Int) + 1))).run Tryz.prog W = .ok (.slice (some ⟨W.heap.size, 0, none⟩) (ll + 1) (ll + 1)) (W.alloc (.cells (madeCells #[.bool false] (ll + 1)) 4)) := fun W => by
        have h := run_make_row' (P := Tryz.prog) 52 4 (.bool false) 1 Tryz.underlying52 infoBool rfl .i64 .i64 (ll + 1) (by omega) (by omega) W
        simpa using h
      clear hbj hll hli
      have HNa : Hid (RNow w w.heap.size #[.string nm, .int .i64 ps, .int .i64 regs, .slice (some ⟨bb, bo, none⟩) bl bc] blocks (.slice A gs.length c) gs (fun _ _ => false) (wr.alloc (.cells (madeCells #[.bool false] (ll + 1)) 4))) := Lib.hid (HN.out.next ((Below.refl _ _).alloc (Nat.le_refl _) _))
      have HSa : Hid (Blk (wr.alloc (.cells (madeCells #[.bool false] (ll + 1)) 4)) wr.heap.size 4 (boolsT [] (rowB (ll + 1) (fun _ => false)))) := Lib.hid (by
        have h := Blk.new wr 4 (madeCells #[.bool false] (ll + 1))
        rw [rowB_none, ← made_bools]
        exact h)
      have Hap : Hid (∀ (i : Nat) (g' : Nat × Nat), gs[i]? = some g' → g'.1 ≠ wr.heap.size) := Lib.hid (fun i g' h => by
        have := (HN.out.rows.row i g' h).2.lt
        omega)
      have hza : w.heap.size ≤ (wr.alloc (.cells (madeCells #[.bool false] (ll + 1)) 4)).heap.size := HNa.out.below.size
      have hzw : w.heap.size ≤ wr.heap.size := HN.out.below.size
      have HWz : Hid ((wr.alloc (.cells (madeCells #[.bool false] (ll + 1)) 4)).heap.size = wr.heap.size + 1) := Lib.hid (by simp)
      have hgs40 : gs.length ≤ 40 := by omega
      have hll63 : (ll : Int) + 1 ≤ 9223372036854775807 := by omega
      have hll0 : (0 : Int) ≤ (ll : Int) := Int.natCast_nonneg _
      go_wp2_with (at_builtin; refine app_one rfl _ _ 53 52 rfl (.slice none 0 0) 1 24 Tryz.underlying53 infoBools rfl (by decide) (by decide) w.heap.size _ _ _ (by rfl) HNa.out.rows.own _ [.slice (some ⟨wr.heap.size, 0, none⟩) (ll + 1) (ll + 1)] (by rfl) rfl (fun x hx => by simp at hx; subst hx; rfl) HWz.out (by omega) hza ?_; intro v4 w4 HA4)
      have HN3 : Hid (RNow w w.heap.size #[.string nm, .int .i64 ps, .int .i64 regs, .slice (some ⟨bb, bo, none⟩) bl bc] blocks v4 (gs ++ [(wr.heap.size, ll + 1)]) (fun _ _ => false) w4) := Lib.hid (HNa.out.app (g := (wr.heap.size, ll + 1)) hzw HSa.out Hap.out (by rw [Hlr.out]) HA4.out)
      go_roundg mk
      case measure => omega
      case rel => exact ⟨gs.length + 1, gs ++ [(wr.heap.size, ll + 1)], by omega, by go_num, by simp, HN3⟩
end Go.Proofs.YtiknhfbkphoceaaGreatDoor
