/-
  Contracts of turnerykit's Globals and Alone; what running the image of one routine comes to.
  Conditions: the code is without fault.
-/
import Derived.Test.YtkiaffaieniebaaDoorRuJ
import Derived.Test.YtkiaffaieniebaaDoorKtC
import Derived.Test.YtkiaffaieniebaaDoorRdQ
namespace Go.Proofs.YtkiaffaieniebaaDoor
open Go.RowKit

def kGlobs : List Glob := [⟨⟨#[103]⟩, 2, [5]⟩, ⟨⟨#[104]⟩, 1, []⟩]
/-- From block lo on, what lay there lies there. -/
def Turn (lo : Nat) (w w' : World) : Prop := ∀ b o x, lo ≤ b → w.cell? ⟨b, o, none⟩ = some x → w'.cell? ⟨b, o, none⟩ = some x
theorem Turn.refl (lo : Nat) (w : World) : Turn lo w w := fun _ _ _ _ h => h
theorem Turn.trans {lo : Nat} {a b c : World} (h : Turn lo a b) (k : Turn lo b c) : Turn lo a c := fun _ _ _ h1 h2 => k _ _ _ h1 (h _ _ _ h1 h2)
theorem Turn.more {lo lo' : Nat} {a b : World} (h : Turn lo a b) (hl : lo ≤ lo') : Turn lo' a b := fun _ _ _ h1 h2 => h _ _ _ (Nat.le_trans hl h1) h2
theorem Turn.of_below {lo : Nat} {w w' : World} (h : Below w.heap.size w w') : Turn lo w w' := fun b o _ _ hc => (bcell h (World.block_lt_of_cell? w ⟨b, o, none⟩ hc)).trans hc
theorem Turn.low {lo g o : Nat} (w : World) (u : Value) (h : g < lo) : Turn lo w (w.setCell ⟨g, o, none⟩ u) := fun b o' _ h1 hc => (World.cell?_setCell_far w ⟨g, o, none⟩ ⟨b, o', none⟩ u (by show g ≠ b; omega)).trans hc
theorem Turn.grown {lo : Nat} {w w' : World} {row : Option Nat} (h : w.grownBy w' row) (hr : ∀ k, row = some k → k < lo) : Turn lo w w' := fun b o _ h1 hc => by
  have hlt := World.block_lt_of_cell? w ⟨b, o, none⟩ hc
  refine (h.cell_far ⟨b, o, none⟩ hlt ?_).trans hc
  intro e
  have := hr b e.symm
  omega
theorem kGlobs_of {w : World} {b c B : Nat} (hb : b < B) (hc : c < B) (c0 : w.cell? ⟨c, 0, none⟩ = some (.int .i64 5)) (b0 : w.cell? ⟨b, 0, none⟩ = some (.string ⟨#[103]⟩)) (b1 : w.cell? ⟨b, 1, none⟩ = some (.int .i64 2)) (b2 : w.cell? ⟨b, 2, none⟩ = some (.slice (some ⟨c, 0, none⟩) 1 1))
    (b3 : w.cell? ⟨b, 3, none⟩ = some (.string ⟨#[104]⟩)) (b4 : w.cell? ⟨b, 4, none⟩ = some (.int .i64 1)) (b5 : w.cell? ⟨b, 5, none⟩ = some (.slice none 0 0)) :
    GlobsAt w B (.slice (some ⟨b, 0, none⟩) 2 2) kGlobs := by
  refine ⟨_, 2, rfl, by decide, by omega, fun _ => ⟨b, 0, rfl, hb, fun k g hk => ?_⟩⟩
  match k, hk with
  | 0, hk =>
    simp only [kGlobs, List.getElem?_cons_zero, Option.some.injEq] at hk
    subst hk
    refine ⟨.slice (some ⟨c, 0, none⟩) 1 1, b0, b1, b2, ⟨_, 1, rfl, by decide, by omega, fun _ => ⟨c, 0, rfl, hc, fun j x hj => ?_⟩⟩⟩
    match j, hj with
    | 0, hj =>
      simp only [List.getElem?_cons_zero, Option.some.injEq] at hj
      subst hj
      exact c0
    | j + 1, hj => simp at hj
  | 1, hk =>
    simp only [kGlobs, List.getElem?_cons_zero, List.getElem?_cons_succ, Option.some.injEq] at hk
    subst hk
    exact ⟨.slice none 0 0, b3, b4, b5, ⟨none, 0, rfl, by decide, by omega, fun h => by simp at h⟩⟩
  | k + 2, hk => simp [kGlobs] at hk
def GlobsPost (w : World) (gs : List Glob) (e : Ending) (w' : World) : Prop := ∃ A n c, e = .returned (.slice A n c) ∧ (∀ W, Turn w.heap.size w' W → GlobsAt W w'.heap.size (.slice A n c) gs) ∧ Below w.heap.size w w'
theorem KGlobals_any (w : World) : Calls Tryd.prog 25 #[] w (GlobsPost w kGlobs) := by
  obtain ⟨PE, hPE⟩ : ∃ PE, GlobsPost w kGlobs = PE := ⟨_, rfl⟩
  rw [hPE]
  have HPE := Lib.hid hPE
  clear hPE
  go_enter Tryd.func25, Tryd.ntmps25
  go_wp2_with fail
  rw [← HPE.out]
  have hc := (Blk.new w 3 #[.int .i64 5]).alloc (.cells #[.string ⟨#[103]⟩, .int .i64 2, .slice (some ⟨w.heap.size, 0, none⟩) 1 1, .string ⟨#[104]⟩, .int .i64 1, .slice none 0 0] 82)
  have hb : Blk ((w.alloc (.cells #[.int .i64 5] 3)).alloc (.cells #[.string ⟨#[103]⟩, .int .i64 2, .slice (some ⟨w.heap.size, 0, none⟩) 1 1, .string ⟨#[104]⟩, .int .i64 1, .slice none 0 0] 82)) (w.heap.size + 1) 82 #[.string ⟨#[103]⟩, .int .i64 2, .slice (some ⟨w.heap.size, 0, none⟩) 1 1, .string ⟨#[104]⟩, .int .i64 1, .slice none 0 0] := by
    have := Blk.new (w.alloc (.cells #[.int .i64 5] 3)) 82 #[.string ⟨#[103]⟩, .int .i64 2, .slice (some ⟨w.heap.size, 0, none⟩) 1 1, .string ⟨#[104]⟩, .int .i64 1, .slice none 0 0]
    simpa using this
  refine ⟨_, _, _, rfl, fun W hW => ?_, ((Below.refl _ _).alloc (Nat.le_refl _) _).alloc (by simp) _⟩
  exact kGlobs_of hb.lt hc.lt (hW _ _ _ (Nat.le_refl _) (hc.cell 0)) (hW _ _ _ (Nat.le_succ _) (hb.cell 0)) (hW _ _ _ (Nat.le_succ _) (hb.cell 1)) (hW _ _ _ (Nat.le_succ _) (hb.cell 2)) (hW _ _ _ (Nat.le_succ _) (hb.cell 3)) (hW _ _ _ (Nat.le_succ _) (hb.cell 4)) (hW _ _ _ (Nat.le_succ _) (hb.cell 5))
theorem OwnB.turn {w W : World} {base : Nat} {v : Value} {xs : List Int} (h : OwnB w base v xs) (hW : Turn base w W) : BAt W w.heap.size v xs := by
  obtain ⟨A, c, e, h1, h2, h3⟩ := h.bytes
  refine ⟨A, c, e, h1, h2, fun hl => ?_⟩
  obtain ⟨b, off, e1, e2, e3⟩ := h3 hl
  subst e1
  have hb : base ≤ b := by
    subst e
    rcases h.2 with ⟨h', _⟩ | ⟨g', cap', cur', h', hb, _⟩
    · simp at h'
    · simp only [Value.slice.injEq, Option.some.injEq, Addr.mk.injEq, and_true, true_and] at h'
      obtain ⟨⟨rfl, _⟩, _⟩ := h'
      exact hb
  exact ⟨b, off, rfl, e2, fun k x hk => hW _ _ _ hb (e3 k x hk)⟩
def mainB : ByteArray := ⟨#[109, 97, 105, 110]⟩
theorem rout_one {w : World} {b B : Nat} {n : ByteArray} {cv : Value} {bs : List Int} (hb : b < B) (b0 : w.cell? ⟨b, 0, none⟩ = some (.string n)) (b1 : w.cell? ⟨b, 1, none⟩ = some cv) (hc : BAt w B cv bs) : RoutsAt w B (.slice (some ⟨b, 0, none⟩) 1 1) [⟨n, bs⟩] := by
  refine ⟨_, 1, rfl, by simp, by omega, fun _ => ⟨b, 0, rfl, hb, fun k g hk => ?_⟩⟩
  match k, hk with
  | 0, hk =>
    simp only [List.getElem?_cons_zero, Option.some.injEq] at hk
    subst hk
    exact ⟨cv, b0, b1, hc⟩
  | k + 1, hk => simp at hk
/-- What an image in memory is. -/
def ImgPost (w : World) (gs : List Glob) (rs : List Rout) (e : Ending) (w' : World) : Prop :=
  ∃ gv rv, e = .returned (.agg #[gv, rv]) ∧ (∀ W, Turn w.heap.size w' W → GlobsAt W w'.heap.size gv gs ∧ RoutsAt W w'.heap.size rv rs) ∧ Below w.heap.size w w'
set_option maxHeartbeats 1000000 in
theorem Alone_any (v : Value) (ms : List Mac) (w : World) (hv : MacsAt w w.heap.size v ms) (hck : (checkS ms).1 = 0) (hi : ∀ m ∈ ms, m.ok) : Calls Tryd.prog 15 #[v] w (ImgPost w kGlobs [⟨mainB, codeL ms⟩]) := by
  obtain ⟨hl5, hw⟩ := writes_of_check hck hi
  have hcl : codeL ms = bytesS ms := by unfold codeL; rw [if_pos hck]
  rw [hcl]
  have HV := Lib.hid hv
  have HW := Lib.hid hw
  have HL := Lib.hid hl5
  obtain ⟨PE, hPE⟩ : ∃ PE, ImgPost w kGlobs [⟨mainB, bytesS ms⟩] = PE := ⟨_, rfl⟩
  rw [hPE]
  have HPE := Lib.hid hPE
  have HA : Hid (Below w.heap.size w (w.alloc (.cells #[.slice none 0 0, .slice none 0 0] 36))) := Lib.hid ((Below.refl _ _).alloc (Nat.le_refl _) _)
  have HK : Hid (Blk (w.alloc (.cells #[.slice none 0 0, .slice none 0 0] 36)) w.heap.size 36 #[.slice none 0 0, .slice none 0 0]) := Lib.hid (Blk.new _ _ _)
  clear hv hck hi hl5 hw hcl hPE
  go_enter Tryd.func15, Tryd.ntmps15
  go_wp2_with fail
  generalize w.alloc (.cells #[.slice none 0 0, .slice none 0 0] 36) = W at *
  have HzW : Hid (w.heap.size < W.heap.size) := Lib.hid HK.out.lt
  refine (KGlobals_any W).mono ?_
  rintro e w1 ⟨Ag, ng, cg, rfl, hg, hb1⟩
  have HG := Lib.hid hg
  have HK1 := Lib.hid (HK.out.below hb1 HK.out.lt)
  have HB1 := Lib.hid (HA.out.trans (hb1.mono (by have := HA.out.size; omega)))
  have HV1 := Lib.hid ((HV.out.below (B' := w.heap.size) HB1.out (Nat.le_refl _)).more HB1.out.size)
  have Hz1 : Hid (W.heap.size ≤ w1.heap.size) := Lib.hid hb1.size
  clear hg hb1
  go_wp2_with fail
  refine (CodeBytes_any v ms w1 HV1.out HW.out HL.out).mono ?_
  rintro e w2 ⟨cv, rfl, hc, hb2⟩
  have HK2 := Lib.hid (HK1.out.below hb2 HK1.out.lt)
  have HB2 := Lib.hid (HB1.out.trans (hb2.mono (by have := HB1.out.size; omega)))
  have HC2 := Lib.hid hc
  obtain ⟨Ac, cc, hcv, _⟩ := hc.bytes
  subst hcv
  have HT2 : Hid (Turn W.heap.size w1 w2) := Lib.hid (.of_below hb2)
  have Hz2 : Hid (w1.heap.size ≤ w2.heap.size) := Lib.hid hb2.size
  have hA3 : Below w2.heap.size w2 (w2.alloc (.cells #[.string ⟨#[109, 97, 105, 110]⟩, .slice Ac (bytesS ms).length cc] 56)) := (Below.refl _ _).alloc (Nat.le_refl _) _
  have HK3 := Lib.hid (HK2.out.alloc (.cells #[.string ⟨#[109, 97, 105, 110]⟩, .slice Ac (bytesS ms).length cc] 56))
  have HR3 := Lib.hid (Blk.new w2 56 #[.string ⟨#[109, 97, 105, 110]⟩, .slice Ac (bytesS ms).length cc])
  have HT3 : Hid (Turn W.heap.size w2 (w2.alloc (.cells #[.string ⟨#[109, 97, 105, 110]⟩, .slice Ac (bytesS ms).length cc] 56))) := Lib.hid (.of_below hA3)
  have HB3 := Lib.hid (HB2.out.trans (hA3.mono HB2.out.size))
  have Hz3 : Hid ((w2.alloc (.cells #[.string ⟨#[109, 97, 105, 110]⟩, .slice Ac (bytesS ms).length cc] 56)).heap.size = w2.heap.size + 1) := Lib.hid (by simp)
  have r0 := HK3.out.cell 0
  have r1 := HK3.out.cell 1
  have f0 := HK3.out.frozen 0
  have f1 := HK3.out.frozen 1
  clear hc hb2 hA3
  go_wp2_with fail
  generalize w2.alloc (.cells #[.string ⟨#[109, 97, 105, 110]⟩, .slice Ac (bytesS ms).length cc] 56) = W3 at *
  refine end_cell rfl rfl (HK3.out.set2 _ _) Tryd.underlying36 rfl (by kernel_rfl) rfl ?_
  rw [← HPE.out]
  have hT4 : Turn W.heap.size W3 ((W3.setCell ⟨w.heap.size, 0, none⟩ (.slice Ag ng cg)).setCell ⟨w.heap.size, 1, none⟩ (.slice (some ⟨w2.heap.size, 0, none⟩) 1 1)) := (Turn.low W3 _ HzW.out).trans (Turn.low _ _ HzW.out)
  have hz : ((W3.setCell ⟨w.heap.size, 0, none⟩ (.slice Ag ng cg)).setCell ⟨w.heap.size, 1, none⟩ (.slice (some ⟨w2.heap.size, 0, none⟩) 1 1)).heap.size = w2.heap.size + 1 := by simp [Hz3.out]
  have z1 := Hz1.out
  have z2 := Hz2.out
  have z0 := HzW.out
  refine ⟨_, _, rfl, fun V hV => ?_, (HB3.out.setCell (Nat.le_refl _) _).setCell (Nat.le_refl _) _⟩
  have hV3 : Turn W.heap.size W3 V := hT4.trans (hV.more (by omega))
  rw [hz]
  refine ⟨(HG.out V ((HT2.out.trans HT3.out).trans hV3)).more (by omega), ?_⟩
  exact rout_one (Nat.lt_succ_self _) (hV3 _ _ _ (by omega) (HR3.out.cell 0)) (hV3 _ _ _ (by omega) (HR3.out.cell 1)) ((HC2.out.turn ((HT3.out.trans hV3).more z1)).more (by omega))
end Go.Proofs.YtkiaffaieniebaaDoor
