/-
  code.ahead: which blocks lead to each.
  Conditions: as the theorems say.
-/
import Derived.Test.YtiknhfbkphoceaaGreatDoorUnL
import Derived.Test.YtiknhfbkphoceaaGreatDoorUnQ
import Derived.Deep.DeepCutAuto
import Derived.Deep.RegionHeld3
import Derived.Deep.OwnRows
import Derived.Deep.LoopGhost
namespace Go.Proofs.YtiknhfbkphoceaaGreatDoor
open Go.RowKit

theorem aheadT_snoc {i j : Nat} {ts : List Int} {F : Nat → List Int} {t : Int} (h : ts[j]? = some t) : aheadT i (ts.take (j + 1)) F = fun (q : Nat) => if ((q : Nat) : Int) = t then aheadT i (ts.take j) F q ++ [((i : Nat) : Int)] else aheadT i (ts.take j) F q := by
  have hlt := (List.getElem?_eq_some_iff.1 h).1
  unfold aheadT
  rw [List.take_succ_eq_append_getElem hlt, (List.getElem?_eq_some_iff.1 h).2, List.foldl_append]
  rfl
theorem aheadT_len {i : Nat} {m : Nat} : ∀ {ts : List Int} {F : Nat → List Int}, (∀ q, (F q).length ≤ m) → ∀ q, (aheadT i ts F q).length ≤ m + ts.length
  | [], F, h, q => by simpa [aheadT] using h q
  | t :: ts, F, h, q => by
    have h2 : ∀ q, ((fun (q : Nat) => if ((q : Nat) : Int) = t then F q ++ [((i : Nat) : Int)] else F q) q).length ≤ m + 1 := by
      intro q
      have := h q
      simp only
      split
      · simp; omega
      · omega
    have := aheadT_len (i := i) (ts := ts) h2 q
    unfold aheadT at *
    simp only [List.foldl_cons, List.length_cons]
    omega
theorem aheadF_len {blocks : List BlkU} (h : ∀ b ∈ blocks, b.to.length ≤ 2) : ∀ (k q : Nat), (aheadF blocks k q).length ≤ 2 * k
  | 0, q => by simp [aheadF]
  | k + 1, q => by
    have h1 := aheadF_len h k
    unfold aheadF
    cases hb : blocks[k]? with
    | none =>
      have := aheadT_len (i := k) (ts := []) h1 q
      simp only at this ⊢
      simp at this
      omega
    | some b =>
      have h2 := h b (List.mem_of_getElem? hb)
      have := aheadT_len (i := k) (ts := b.to) h1 q
      simp only
      omega
theorem aheadF_succ {blocks : List BlkU} {k : Nat} {b : BlkU} (h : blocks[k]? = some b) : aheadF blocks (k + 1) = aheadT k b.to (aheadF blocks k) := by
  conv => lhs; unfold aheadF
  rw [h]
/-- What code.ahead comes to. -/
def AheadPost (w : World) (blocks : List BlkU) (e : Ending) (w' : World) : Prop :=
  ∃ g R, e = .returned (.slice (some ⟨g, 0, none⟩) blocks.length blocks.length) ∧ RowsG w' w.heap.size g blocks.length R (aheadF blocks blocks.length) ∧ Below w.heap.size w w'
/-- The rows after some blocks, and some targets of the next one. -/
def AheadNow (w wr : World) (g n : Nat) (F : Nat → List Int) : Prop := (∃ R, RowsG wr w.heap.size g n R F) ∧ Below w.heap.size w wr
set_option maxRecDepth 100000 in
set_option maxHeartbeats 2000000 in
theorem ahead_any (bA : Option Addr) (bl bc : Nat) (nm : ByteArray) (ps regs : Int) (blocks : List BlkU) (w : World) (hb : BlksAt w w.heap.size (.slice bA bl bc) blocks) (hn : blocks.length ≤ 40) (hto : ∀ b ∈ blocks, b.to.length ≤ 2 ∧ ∀ n ∈ b.to, 1 ≤ n ∧ n < (blocks.length : Int)) :
    Calls Tryz.prog 85 #[.agg #[.string nm, .int .i64 ps, .int .i64 regs, .slice bA bl bc]] w (AheadPost w blocks) := by
  have HBl := Lib.hid hb
  have hlen : blocks.length = bl := SlAt.len hb
  have HL := Lib.hid hlen
  have HTo := Lib.hid hto
  have hbl : bl ≤ 40 := by omega
  have HFl := Lib.hid (aheadF_len (blocks := blocks) fun b hb => (hto b hb).1)
  have HPE : Hid (∀ (g : Nat) (w' : World), AheadNow w w' g bl (aheadF blocks bl) → AheadPost w blocks (.returned (.slice (some ⟨g, 0, none⟩) bl bl)) w') := Lib.hid fun g w' ⟨⟨R, h1⟩, h2⟩ => ⟨g, R, by rw [hlen], by rw [hlen]; exact h1, h2⟩
  have hmk := fun W : World => run_make_row' (P := Tryz.prog) 33 26 (.slice none 0 0) 24 Tryz.underlying33 info_ints rfl .i64 .i64 bl (by omega) (by omega) W
  have HN0 : Hid (AheadNow w ((w.alloc (.cells #[.string nm, .int .i64 ps, .int .i64 regs, .slice bA bl bc] 43)).alloc (.cells (madeCells #[.slice none 0 0] bl) 26)) (w.heap.size + 1) bl (aheadF blocks 0)) :=
    Lib.hid ⟨⟨_, by have := RowsG.start (w.alloc (.cells #[.string nm, .int .i64 ps, .int .i64 regs, .slice bA bl bc] 43)) (base := w.heap.size) (by simp) bl; rw [World.size_alloc] at this; exact this⟩, ((Below.refl _ _).alloc (Nat.le_refl _) _).alloc (by simp) _⟩
  clear hb hto hlen hn
  go_enter Tryz.func85, Tryz.ntmps85
  go_wp2_with fail
  clear hmk
  generalize (w.alloc (.cells #[.string nm, .int .i64 ps, .int .i64 regs, .slice bA bl bc] 43)).alloc (.cells (madeCells #[.slice none 0 0] bl) 26) = W at *
  generalize w.heap.size + 1 = g at *
  go_loopw [15] (fun i wr => ∃ k : Nat, k ≤ bl ∧ i = .int .i64 k ∧ Hid (AheadNow w wr g bl (aheadF blocks k))) (fun i _ => bl - (intOf i).toNat)
  case atStart => exact ⟨0, Nat.zero_le _, rfl, HN0⟩
  case round =>
    obtain ⟨k, hk, rfl, HN⟩ := hrel
    clear HN0
    by_cases hlt : k < bl
    · obtain ⟨⟨phis, list, kind, on, ts⟩, hbk⟩ : ∃ b, blocks[k]? = some b := ⟨blocks[k]'(by rw [HL.out]; exact hlt), List.getElem?_eq_getElem _⟩
      obtain ⟨bb, boff, hbA, hbb, us, ⟨pv, lv, tv, rfl, hp, hl, ht⟩, hcell⟩ := SlAt.at HBl.out hbk
      subst hbA
      have hB := HN.out.2
      have b0 := (bcell hB hbb).trans (hcell 0 _ rfl)
      have b1 := (bcell hB hbb).trans (hcell 1 _ rfl)
      have b2 := (bcell hB hbb).trans (hcell 2 _ rfl)
      have b3 := (bcell hB hbb).trans (hcell 3 _ rfl)
      have b4 := (bcell hB hbb).trans (hcell 4 _ rfl)
      have b5 := (bcell hB hbb).trans (hcell 5 _ rfl)
      simp only [Nat.add_zero] at b0
      obtain ⟨pA, pc, rfl, _, _⟩ := SlAt.form hp
      obtain ⟨lA, lc, rfl, _, _⟩ := SlAt.form hl
      obtain ⟨tA, tc, rfl, htc, ht63, _⟩ := id ht
      simp only at ht b0 b1 b2 b3 b4 b5 htc
      obtain ⟨tl, htl⟩ : ∃ tl, ts.length = tl := ⟨_, rfl⟩
      rw [htl] at b5 htc ht
      have Htl := Lib.hid htl
      have Ht := Lib.hid ht
      have Hbk := Lib.hid hbk
      have hto2 : tl ≤ 2 := by rw [← htl]; exact (HTo.out _ (List.mem_of_getElem? hbk)).1
      have hk0 : (0 : Int) ≤ (k : Int) := Int.natCast_nonneg k
      have hk1 : (k : Int) < (bl : Int) := by omega
      have HB1 : Hid (Blk (wr.alloc (.cells #[.slice pA phis.length pc, .slice lA list.length lc, .int .i64 kind, .bool on.reg, .int .i64 on.n, .slice tA tl tc] 78)) wr.heap.size 78 #[.slice pA phis.length pc, .slice lA list.length lc, .int .i64 kind, .bool on.reg, .int .i64 on.n, .slice tA tl tc]) := Lib.hid (Blk.new _ _ _)
      have HN1 : Hid (AheadNow w (wr.alloc (.cells #[.slice pA phis.length pc, .slice lA list.length lc, .int .i64 kind, .bool on.reg, .int .i64 on.n, .slice tA tl tc] 78)) g bl (aheadT k (ts.take 0) (aheadF blocks k))) := Lib.hid ⟨by obtain ⟨R, hR⟩ := HN.out.1; exact ⟨R, hR.alloc _⟩, hB.alloc hB.size _⟩
      clear hp hl ht hcell hbk htl hB
      go_upto_region 5 with fail
      clear b0 b1 b2 b3 b4 b5
      generalize hg5 : wr.heap.size = g5 at *
      generalize wr.alloc (.cells #[.slice pA phis.length pc, .slice lA list.length lc, .int .i64 kind, .bool on.reg, .int .i64 on.n, .slice tA tl tc] 78) = W1 at *
      have b5 := HB1.out.cell 5
      clear hg5
      go_wp2_with fail
      go_loopg [24] tl (fun gk i wx => ∃ j : Nat, j + gk = tl ∧ i = .int .i64 j ∧ Hid (AheadNow w wx g bl (aheadT k (ts.take j) (aheadF blocks k))))
      case atStart => exact ⟨0, by omega, rfl, HN1⟩
      case round =>
        obtain ⟨j, hj, rfl, HNj⟩ := hrel
        rcases gk with _ | m
        · have hj2 : j = tl := by omega
          have HN2 : Hid (AheadNow w wr g bl (aheadF blocks (k + 1))) := Lib.hid (by
            rw [aheadF_succ Hbk.out]
            have := HNj.out
            rw [hj2, ← Htl.out, List.take_length] at this
            exact this)
          clear HNj
          go_wp2_with fail
          go_roundw
          case rel => exact ⟨k + 1, by omega, by go_num, HN2⟩
          case measure => simp [intOf]; omega
        · have hjt : j < tl := by omega
          obtain ⟨t, htj⟩ : ∃ t, ts[j]? = some t := ⟨ts[j]'(by rw [Htl.out]; exact hjt), List.getElem?_eq_getElem _⟩
          have hbt := (HTo.out _ (List.mem_of_getElem? Hbk.out)).2 t (List.mem_of_getElem? htj)
          rw [HL.out] at hbt
          obtain ⟨n, rfl⟩ : ∃ n : Nat, t = (n : Int) := ⟨t.toNat, by omega⟩
          obtain ⟨A', c', eA, _, _, h3⟩ := Ht.out
          obtain ⟨tb, toff, hA, htb, htc'⟩ := h3 (by rw [Htl.out]; omega)
          obtain rfl : A' = tA := ((Value.slice.inj eA).1).symm
          subst hA
          have d0 := (bcell HNj.out.2 htb).trans (htc' j _ htj)
          have Htj := Lib.hid htj
          have hj0 : (0 : Int) ≤ (j : Int) := Int.natCast_nonneg j
          have hj1 : (j : Int) < (tl : Int) := by omega
          obtain ⟨hn0, hn1⟩ := hbt
          have hnb : n < bl := by omega
          obtain ⟨⟨R, hR⟩, hB⟩ := HNj.out
          have r0 := hR.cell hnb
          have HR := Lib.hid hR
          have HB := Lib.hid hB
          have hlr := hR.blk.lt
          clear eA h3 htc' htj hR hB HNj
          obtain ⟨F, hF⟩ : ∃ F, aheadT k (ts.take j) (aheadF blocks k) = F := ⟨_, rfl⟩
          have HFn : Hid ((fun (q : Nat) => if ((q : Nat) : Int) = ((n : Nat) : Int) then F q ++ [((k : Nat) : Int)] else F q) = aheadT k (ts.take (j + 1)) (aheadF blocks k)) := Lib.hid (by rw [aheadT_snoc Htj.out, hF])
          have hfl : (F n).length ≤ 200 := by
            rw [← hF]
            have := aheadT_len (i := k) (ts := ts.take j) (HFl.out k) n
            rw [List.length_take] at this
            omega
          rw [hF] at HR
          clear hF
          obtain ⟨Ar, cr, hRn⟩ := row_form (HR.out.own n hnb)
          have HRn := Lib.hid hRn
          rw [hRn] at r0
          have HOwn : Hid (OwnInts wr w.heap.size (.slice Ar (F n).length cr) (F n)) := Lib.hid (hRn ▸ HR.out.own n hnb)
          clear hRn
          have hz := HB.out.size
          go_wp2_with (at_builtin; refine app_one rfl _ _ 26 3 rfl (.int .i64 0) 1 8 Tryz.underlying26 infoInt rfl (by decide) (by decide) w.heap.size (.slice Ar _ cr) _ _ (by rfl) HOwn.out _ [.int .i64 (k : Int)] (by rfl) rfl (fun x hx => by simp at hx; subst hx; rfl) rfl (by omega) hz ?_; intro v4 w4 HA4; obtain ⟨A4, c4, hv4⟩ := row_form HA4.out.own; subst hv4; have hb4 := HA4.out.blk HOwn.out HR.out.blk (by decide); have cg4 : w4.cell? ⟨g, n, none⟩ = some (.slice Ar (F n).length cr) := (by rw [hb4.cell n]; simp [hnb, HRn.out]); have fg4 := hb4.frozen n; have hg4 := hb4.lt; clear hb4)
          have HN3 : Hid (AheadNow w (w4.setCell ⟨g, n, none⟩ (.slice A4 ((F n).length + 1) c4)) g bl (aheadT k (ts.take (j + 1)) (aheadF blocks k))) := Lib.hid (by
            refine ⟨⟨_, HFn.out ▸ HR.out.put hnb (H := wr.heap.size + 1) (by omega) (by rw [HRn.out]; exact HA4.out)⟩, (HB.out.trans HA4.out.below).setCell HR.out.ge _⟩)
          go_roundg m
          case measure => omega
          case rel => exact ⟨j + 1, by omega, by go_num, HN3⟩
    · obtain rfl : k = bl := by omega
      go_wp2_with fail
      go_ret
      exact HPE.out _ _ HN.out
end Go.Proofs.YtiknhfbkphoceaaGreatDoor
