/-
  The reference's LiveAll.
  Conditions: as the theorems say.
-/
import Derived.Test.YtiknhfbkphoceaaGreatDoorLvW
namespace Go.Proofs.YtiknhfbkphoceaaGreatDoor
open Go.RowKit

theorem BoolsOwn.more {w : World} {base base' : Nat} {v : Value} {gs : List (Nat × Nat)} {O : Nat → Nat → Bool} (h : BoolsOwn w base v gs O) (hb : base' ≤ base) : BoolsOwn w base' v gs O :=
  ⟨row_more h.own hb, fun i g hg => ⟨Nat.le_trans hb (h.row i g hg).1, (h.row i g hg).2⟩, h.apart⟩
theorem rows_apart {w : World} {base base' : Nat} {e e' : TypeId} {s s' n n' : Nat} {v v' : Value} {xs xs' : List Value} (h : w.ownsRow base e s v n xs) (h' : w.ownsRow base' e' s' v' n' xs') (he : e ≠ e') (k : Nat) (hk : v.ownBlock = some k) : v'.ownBlock ≠ some k := by
  intro hk'
  rcases h.2 with ⟨rfl, _⟩ | ⟨g, cap, cur, rfl, _, hh, _⟩
  · cases hk
  · rcases h'.2 with ⟨rfl, _⟩ | ⟨g', cap', cur', rfl, _, hh', _⟩
    · cases hk'
    · simp only [Value.ownBlock, Option.some.injEq] at hk hk'
      subst hk; subst hk'
      rw [hh] at hh'
      cases hh'
      exact he rfl
theorem BoolsOwn.appended {w w' : World} {base base' H n : Nat} {e : TypeId} {v v' u : Value} {gs : List (Nat × Nat)} {O : Nat → Nat → Bool} {m : Nat} {us xs : List Value} (h : BoolsOwn w base v gs O) (hu : w.ownsRow base' e 1 u m us) (ha : Appended w base' e 1 u n xs H v' w') (h1 : e ≠ 52) (h2 : e ≠ 4) : BoolsOwn w' base v gs O :=
  ⟨ha.row h.own (rows_apart h.own hu (fun e => h1 e.symm)), fun i g hg => ⟨(h.row i g hg).1, ha.blk hu (h.row i g hg).2 h2⟩, h.apart⟩
/-- All registers' liveness, in memory: the call owns it. -/
def LivesOwn (w : World) (base : Nat) (v : Value) (bs : List BlkU) (m : Nat) : Prop :=
  ∃ us : List Value, us.length = m ∧ w.ownsRow base 53 1 v m us ∧ ∀ (r : Nat) (u : Value), us[r]? = some u → ∃ gs, BoolsOwn w base u gs (fun i k => atU bs i k (r : Int)) ∧ gs.length = bs.length ∧ ∀ i g, gs[i]? = some g → g.2 = lenR bs i + 1
theorem LivesOwn.nil (w : World) (base : Nat) (bs : List BlkU) : LivesOwn w base (.slice none 0 0) bs 0 := ⟨[], rfl, World.ownsRow_nil _ _ _ _, fun r u h => by simp at h⟩
theorem LivesOwn.below {w w' : World} {base : Nat} {v : Value} {bs : List BlkU} {m : Nat} (h : LivesOwn w base v bs m) (hb : Below w.heap.size w w') : LivesOwn w' base v bs m := by
  obtain ⟨us, h1, h2, h3⟩ := h
  exact ⟨us, h1, row_lt h2 hb, fun r u hu => by
    obtain ⟨gs, a, b, c⟩ := h3 r u hu
    exact ⟨gs, a.below hb, b, c⟩⟩
theorem LivesOwn.more {w : World} {base base' : Nat} {v : Value} {bs : List BlkU} {m : Nat} (h : LivesOwn w base v bs m) (hb : base' ≤ base) : LivesOwn w base' v bs m := by
  obtain ⟨us, h1, h2, h3⟩ := h
  exact ⟨us, h1, row_more h2 hb, fun r u hu => by
    obtain ⟨gs, a, b, c⟩ := h3 r u hu
    exact ⟨gs, a.more hb, b, c⟩⟩
theorem LivesOwn.form {w : World} {base : Nat} {v : Value} {bs : List BlkU} {m : Nat} (h : LivesOwn w base v bs m) : ∃ A c, v = .slice A m c := by
  obtain ⟨us, h1, h2, h3⟩ := h
  exact row_form h2
theorem LivesOwn.at_ {w : World} {base : Nat} {A : Option Addr} {c : Nat} {bs : List BlkU} {m : Nat} (h : LivesOwn w base (.slice A m c) bs m) {r : Nat} (hr : r < m) :
    ∃ g0 gB cb, A = some ⟨g0, 0, none⟩ ∧ w.cell? ⟨g0, r, none⟩ = some (.slice gB bs.length cb) ∧ ∀ i, i < bs.length → ∃ g1 g, gB = some ⟨g1, 0, none⟩ ∧ w.cell? ⟨g1, i, none⟩ = some (.slice (some ⟨g, 0, none⟩) (lenR bs i + 1) (lenR bs i + 1)) ∧
      ∀ k, k ≤ lenR bs i → w.cell? ⟨g, k, none⟩ = some (.bool (atU bs i k (r : Int))) := by
  obtain ⟨us, h1, h2, h3⟩ := h
  obtain ⟨g0, cap, e, _⟩ := World.ownsRow.form h2 (by omega)
  injection e with e1 e2 e3
  subst e1
  obtain ⟨u, hu⟩ : ∃ u, us[r]? = some u := ⟨_, List.getElem?_eq_getElem (by omega)⟩
  obtain ⟨gs, a, b, d⟩ := h3 r u hu
  obtain ⟨gB, cb, rfl⟩ := a.form
  rw [b] at a hu
  refine ⟨g0, gB, cb, rfl, ?_, fun i hi => ?_⟩
  · exact row_cell h2 hu
  · obtain ⟨g1, g, e4, hg, s0, _, hbk⟩ := a.cell hi
    have hgl := d i g hg
    obtain ⟨ga, gb⟩ := g
    simp only at hgl
    subst hgl
    exact ⟨g1, ga, e4, s0, fun k hk => ((hbk.cell k).trans (boolsT_at (rowB_at (f := fun k => atU bs i k (r : Int)) (show k < lenR bs i + 1 by omega))))⟩
theorem infoBools2 : (Tryz.prog.info? 53).map (fun i => (i.zero, i.size, i.bytes)) = some (some (.slice none 0 0), 1, 24) := by kernel_rfl
def LAPost (w : World) (bs : List BlkU) (m : Nat) (e : Ending) (w' : World) : Prop := ∃ v, e = .returned v ∧ LivesOwn w' w.heap.size v bs m ∧ Below w.heap.size w w'
set_option maxRecDepth 100000 in
set_option maxHeartbeats 4000000 in
theorem LiveAll_any (nm : ByteArray) (ps : Int) (nr : Nat) (bA : Option Addr) (bl bc : Nat) (blocks : List BlkU) (w : World) (hn : nr ≤ 100) (hb : BlksAt w w.heap.size (.slice bA bl bc) blocks) (hbl : bl ≤ 40) (hto : ∀ b ∈ blocks, ∀ t ∈ b.to, 0 ≤ t ∧ t < (blocks.length : Int)) :
    Calls Tryz.prog 43 #[.agg #[.string nm, .int .i64 ps, .int .i64 (nr : Int), .slice bA bl bc]] w (LAPost w blocks nr) := by
  have HBL := Lib.hid hb
  have HTo := Lib.hid hto
  have HP : Hid (∀ e w', (∃ v, e = .returned v ∧ LivesOwn w' w.heap.size v blocks nr ∧ Below w.heap.size w w') → LAPost w blocks nr e w') := Lib.hid fun _ _ h => h
  generalize LAPost w blocks nr = PE at *
  have HB0 : Hid (Below w.heap.size w (w.alloc (.cells #[.string nm, .int .i64 ps, .int .i64 (nr : Int), .slice bA bl bc] 43))) := Lib.hid ((Below.refl _ _).alloc (Nat.le_refl _) _)
  have HF0 : Hid (Blk (w.alloc (.cells #[.string nm, .int .i64 ps, .int .i64 (nr : Int), .slice bA bl bc] 43)) w.heap.size 43 #[.string nm, .int .i64 ps, .int .i64 (nr : Int), .slice bA bl bc]) := Lib.hid (Blk.new _ _ _)
  clear hb hto
  go_enter Tryz.func43, Tryz.ntmps43
  go_upto_region 3 with fail
  generalize w.alloc (.cells #[.string nm, .int .i64 ps, .int .i64 (nr : Int), .slice bA bl bc] 43) = W0 at *
  go_loopg [3, 4] nr (fun gk s i wr => ∃ j : Nat, j + gk = nr ∧ i = .int .i64 (j : Int) ∧ Hid (LivesOwn wr w.heap.size s blocks j) ∧ Hid (Below w.heap.size w wr) ∧ Hid (Blk wr w.heap.size 43 #[.string nm, .int .i64 ps, .int .i64 (nr : Int), .slice bA bl bc]))
  case atStart => exact ⟨0, by omega, rfl, Lib.hid (LivesOwn.nil _ _ _), HB0, HF0⟩
  case round =>
    obtain ⟨j, hj, rfl, HO, HB, HF⟩ := hrel
    clear HB0 HF0
    have q0 := HF.out.cell 0
    have q1 := HF.out.cell 1
    have q2 := HF.out.cell 2
    have q3 := HF.out.cell 3
    rcases gk with _ | mk
    · have hjt : ¬ (j : Int) < (nr : Int) := by omega
      obtain rfl : j = nr := by omega
      go_wp2_with fail
      exact HP.out _ _ ⟨_, rfl, HO.out, HB.out⟩
    · have hjt : (j : Int) < (nr : Int) := by omega
      have hj0 : (0 : Int) ≤ (j : Int) := Int.natCast_nonneg j
      have HLr := Lib.hid (LiveReg_any nm ps (nr : Int) bA bl bc blocks (j : Int) wr (HBL.out.move HB.out.size (kept_of HB.out (Nat.le_refl _))) hbl HTo.out)
      go_wp2_with fail
      refine HLr.out.mono ?_
      rintro e w3 ⟨v, rows, rfl, hrows, hrl, hrn, hb3⟩
      obtain ⟨us, hu1, hu2, hu3⟩ := HO.out.below hb3
      have HB3 := Lib.hid (HB.out.trans (hb3.mono HB.out.size))
      have HF3 := Lib.hid (HF.out.below hb3 HF.out.lt)
      have hrows := hrows.more HB.out.size
      obtain ⟨vA, vc, hvf⟩ := hrows.form
      subst hvf
      have HRw := Lib.hid hrows
      have Hrl := Lib.hid (And.intro hrl hrn)
      have HU := Lib.hid (And.intro hu1 (And.intro hu2 hu3))
      have hz3 := HB3.out.size
      clear hb3 hrows hrl hrn hu1 hu2 hu3 HO HB HF HLr q0 q1 q2 q3
      go_wp2_with (at_builtin; refine app_one rfl _ _ 87 53 rfl (.slice none 0 0) 1 24 Tryz.underlying87 infoBools2 rfl (by decide) (by decide) w.heap.size _ _ _ (by rfl) HU.out.2.1 _ [.slice vA rows.length vc] (by rfl) rfl (fun x hx => by simp at hx; subst hx; rfl) rfl (by omega) hz3 ?_; intro v4 w4 HA4)
      have HO4 : Hid (LivesOwn w4 w.heap.size v4 blocks (j + 1)) := Lib.hid (by
        refine ⟨us ++ [.slice vA rows.length vc], by simp [HU.out.1], HA4.out.own, fun r u hu => ?_⟩
        rcases Nat.lt_or_ge r us.length with h | h
        · rw [List.getElem?_append_left h] at hu
          obtain ⟨gs, a, b, c⟩ := HU.out.2.2 r u hu
          exact ⟨gs, a.appended HU.out.2.1 HA4.out (by decide) (by decide), b, c⟩
        · rw [List.getElem?_append_right h] at hu
          have hr : r = us.length := by
            have := (List.getElem?_eq_some_iff.1 hu).1
            simp at this
            omega
          subst hr
          rw [Nat.sub_self] at hu
          simp only [List.getElem?_cons_zero, Option.some.injEq] at hu
          subst hu
          rw [HU.out.1]
          exact ⟨rows, HRw.out.appended HU.out.2.1 HA4.out (by decide) (by decide), Hrl.out.1, Hrl.out.2⟩)
      have HB4 := Lib.hid (HB3.out.trans HA4.out.below)
      have HF4 := Lib.hid (HA4.out.blk HU.out.2.1 HF3.out (by decide))
      go_roundg mk
      case measure => omega
      case rel => exact ⟨j + 1, by omega, by go_num, HO4, HB4, HF4⟩
end Go.Proofs.YtiknhfbkphoceaaGreatDoor
