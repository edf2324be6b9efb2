/-
  Contracts of turnerykit's Globals and Alone; what running the image of one routine comes to.
  Conditions: the code is without fault.
-/
import Derived.Test.YtkiaffaieniebaaDoorRuJ
import Derived.Test.YtkiaffaieniebaaDoorKtC
import Derived.Test.YtkiaffaieniebaaDoorRdQ
namespace Go.Proofs.YtkiaffaieniebaaDoor
open Go.RowKit

def kGlobs : List Glob := [⟨⟨#[103]⟩, 2, [5]⟩, ⟨⟨#[104]⟩, 1, []⟩]
theorem kGlobs_of {w : World} {b c : Nat} (hc : Blk w c 3 #[.int .i64 5]) (hb : Blk w b 82 #[.string ⟨#[103]⟩, .int .i64 2, .slice (some ⟨c, 0, none⟩) 1 1, .string ⟨#[104]⟩, .int .i64 1, .slice none 0 0]) :
    GlobsAt w w.heap.size (.slice (some ⟨b, 0, none⟩) 2 2) kGlobs := by
  refine ⟨_, 2, rfl, by decide, by omega, fun _ => ⟨b, 0, rfl, hb.lt, fun k g hk => ?_⟩⟩
  match k, hk with
  | 0, hk =>
    simp only [kGlobs, List.getElem?_cons_zero, Option.some.injEq] at hk
    subst hk
    refine ⟨.slice (some ⟨c, 0, none⟩) 1 1, hb.cell 0, hb.cell 1, hb.cell 2, ⟨_, 1, rfl, by decide, by omega, fun _ => ⟨c, 0, rfl, hc.lt, fun j x hj => ?_⟩⟩⟩
    match j, hj with
    | 0, hj =>
      simp only [List.getElem?_cons_zero, Option.some.injEq] at hj
      subst hj
      exact hc.cell 0
    | j + 1, hj => simp at hj
  | 1, hk =>
    simp only [kGlobs, List.getElem?_cons_zero, List.getElem?_cons_succ, Option.some.injEq] at hk
    subst hk
    exact ⟨.slice none 0 0, hb.cell 3, hb.cell 4, hb.cell 5, ⟨none, 0, rfl, by decide, by omega, fun h => by simp at h⟩⟩
  | k + 2, hk => simp [kGlobs] at hk
theorem KGlobals_any (w : World) : Calls Tryd.prog 25 #[] w fun e w' => ∃ v, e = .returned v ∧ GlobsAt w' w'.heap.size v kGlobs ∧ Below w.heap.size w w' := by
  obtain ⟨PE, hPE⟩ : ∃ PE : Ending → World → Prop, (fun e w' => ∃ v, e = .returned v ∧ GlobsAt w' w'.heap.size v kGlobs ∧ Below w.heap.size w w') = PE := ⟨_, rfl⟩
  rw [hPE]
  have HPE : Hid (∀ v w', GlobsAt w' w'.heap.size v kGlobs → Below w.heap.size w w' → PE (.returned v) w') := Lib.hid fun v w' h1 h2 => by rw [← hPE]; exact ⟨v, rfl, h1, h2⟩
  clear hPE
  go_enter Tryd.func25, Tryd.ntmps25
  go_wp2_with fail
  refine HPE.out _ _ ?_ (((Below.refl _ _).alloc (Nat.le_refl _) _).alloc (by simp) _)
  refine kGlobs_of (c := w.heap.size) ((Blk.new w _ _).alloc _) ?_
  have := Blk.new (w.alloc (.cells #[.int .i64 5] 3)) 82 #[.string ⟨#[103]⟩, .int .i64 2, .slice (some ⟨w.heap.size, 0, none⟩) 1 1, .string ⟨#[104]⟩, .int .i64 1, .slice none 0 0]
  simpa using this
/-- A block that holds slices alone: what is no slice lies elsewhere. -/
theorem ne_slices {w : World} {g : Nat} {t : TypeId} {a1 a2 : Option Addr} {n1 n2 c1 c2 : Nat} (hb : Blk w g t #[.slice a1 n1 c1, .slice a2 n2 c2]) {b o : Nat} {v : Value} (hc : w.cell? ⟨b, o, none⟩ = some v) (hv : ∀ a n c, v ≠ .slice a n c) : g ≠ b := by
  rintro rfl
  rw [hb.cell] at hc
  match o, hc with
  | 0, hc => simp at hc; exact hv _ _ _ hc.symm
  | 1, hc => simp at hc; exact hv _ _ _ hc.symm
  | o + 2, hc => simp at hc
section
variable {w : World} {g o B : Nat} {t : TypeId} {a1 a2 : Option Addr} {n1 n2 c1 c2 : Nat} {v : Value}
theorem cell_over {b o' : Nat} {x u : Value} (hne : g ≠ b) (hc : w.cell? ⟨b, o', none⟩ = some x) : (w.setCell ⟨g, o, none⟩ u).cell? ⟨b, o', none⟩ = some x :=
  (World.cell?_setCell_far w ⟨g, o, none⟩ ⟨b, o', none⟩ u hne).trans hc
theorem IntsAt.over {xs : List Int} (h : IntsAt w B v xs) (hb : Blk w g t #[.slice a1 n1 c1, .slice a2 n2 c2]) (u : Value) : IntsAt (w.setCell ⟨g, o, none⟩ u) B v xs := by
  obtain ⟨A, c, e, h1, h2, h3⟩ := h
  refine ⟨A, c, e, h1, h2, fun hl => ?_⟩
  obtain ⟨b, off, e1, e2, e3⟩ := h3 hl
  exact ⟨b, off, e1, e2, fun k x hk => cell_over (ne_slices hb (e3 k x hk) (by simp)) (e3 k x hk)⟩
theorem BAt.over {xs : List Int} (h : BAt w B v xs) (hb : Blk w g t #[.slice a1 n1 c1, .slice a2 n2 c2]) (u : Value) : BAt (w.setCell ⟨g, o, none⟩ u) B v xs := by
  obtain ⟨A, c, e, h1, h2, h3⟩ := h
  refine ⟨A, c, e, h1, h2, fun hl => ?_⟩
  obtain ⟨b, off, e1, e2, e3⟩ := h3 hl
  exact ⟨b, off, e1, e2, fun k x hk => cell_over (ne_slices hb (e3 k x hk) (by simp)) (e3 k x hk)⟩
theorem GlobsAt.over {gs : List Glob} (h : GlobsAt w B v gs) (hb : Blk w g t #[.slice a1 n1 c1, .slice a2 n2 c2]) (u : Value) : GlobsAt (w.setCell ⟨g, o, none⟩ u) B v gs := by
  obtain ⟨A, c, e, h1, h2, h3⟩ := h
  refine ⟨A, c, e, h1, h2, fun hl => ?_⟩
  obtain ⟨b, off, e1, e2, e3⟩ := h3 hl
  refine ⟨b, off, e1, e2, fun k x hk => ?_⟩
  obtain ⟨iv, k0, k1, k2, ki⟩ := e3 k x hk
  have hne := ne_slices hb k0 (by simp)
  exact ⟨iv, cell_over hne k0, cell_over hne k1, cell_over hne k2, ki.over hb u⟩
theorem RoutsAt.over {rs : List Rout} (h : RoutsAt w B v rs) (hb : Blk w g t #[.slice a1 n1 c1, .slice a2 n2 c2]) (u : Value) : RoutsAt (w.setCell ⟨g, o, none⟩ u) B v rs := by
  obtain ⟨A, c, e, h1, h2, h3⟩ := h
  refine ⟨A, c, e, h1, h2, fun hl => ?_⟩
  obtain ⟨b, off, e1, e2, e3⟩ := h3 hl
  refine ⟨b, off, e1, e2, fun k x hk => ?_⟩
  obtain ⟨cv, k0, k1, ki⟩ := e3 k x hk
  have hne := ne_slices hb k0 (by simp)
  exact ⟨cv, cell_over hne k0, cell_over hne k1, ki.over hb u⟩
end
def mainB : ByteArray := ⟨#[109, 97, 105, 110]⟩
theorem rout_one {w : World} {b : Nat} {n : ByteArray} {cv : Value} {bs : List Int} (hb : Blk w b 56 #[.string n, cv]) (hc : BAt w w.heap.size cv bs) : RoutsAt w w.heap.size (.slice (some ⟨b, 0, none⟩) 1 1) [⟨n, bs⟩] := by
  refine ⟨_, 1, rfl, by simp, by omega, fun _ => ⟨b, 0, rfl, hb.lt, fun k g hk => ?_⟩⟩
  match k, hk with
  | 0, hk =>
    simp only [List.getElem?_cons_zero, Option.some.injEq] at hk
    subst hk
    exact ⟨cv, hb.cell 0, hb.cell 1, hc⟩
  | k + 1, hk => simp at hk
/-- What an image in memory is. -/
def ImgPost (w : World) (gs : List Glob) (rs : List Rout) (e : Ending) (w' : World) : Prop := ∃ gv rv, e = .returned (.agg #[gv, rv]) ∧ GlobsAt w' w'.heap.size gv gs ∧ RoutsAt w' w'.heap.size rv rs ∧ Below w.heap.size w w'
set_option maxHeartbeats 1000000 in
theorem Alone_any (v : Value) (ms : List Mac) (w : World) (hv : MacsAt w w.heap.size v ms) (hck : (checkS ms).1 = 0) (hi : ∀ m ∈ ms, m.ok) : Calls Tryd.prog 15 #[v] w (ImgPost w kGlobs [⟨mainB, codeL ms⟩]) := by
  obtain ⟨hl5, hw⟩ := writes_of_check hck hi
  have hcl : codeL ms = bytesS ms := by unfold codeL; rw [if_pos hck]
  rw [hcl]
  have HV := Lib.hid hv
  have HW := Lib.hid hw
  have HL := Lib.hid hl5
  obtain ⟨PE, hPE⟩ : ∃ PE, ImgPost w kGlobs [⟨mainB, bytesS ms⟩] = PE := ⟨_, rfl⟩
  rw [hPE]
  have HPE := Lib.hid hPE
  have HA : Hid (Below w.heap.size w (w.alloc (.cells #[.slice none 0 0, .slice none 0 0] 36))) := Lib.hid ((Below.refl _ _).alloc (Nat.le_refl _) _)
  have HK : Hid (Blk (w.alloc (.cells #[.slice none 0 0, .slice none 0 0] 36)) w.heap.size 36 #[.slice none 0 0, .slice none 0 0]) := Lib.hid (Blk.new _ _ _)
  clear hv hck hi hl5 hw hcl hPE
  go_enter Tryd.func15, Tryd.ntmps15
  go_wp2_with fail
  generalize w.alloc (.cells #[.slice none 0 0, .slice none 0 0] 36) = W at *
  refine (KGlobals_any W).mono ?_
  rintro e w1 ⟨gv, rfl, hg, hb1⟩
  have HG := Lib.hid hg
  have HK1 := Lib.hid (HK.out.below hb1 HK.out.lt)
  have HB1 := Lib.hid (HA.out.trans (hb1.mono (by have := HA.out.size; omega)))
  have HV1 := Lib.hid ((HV.out.below (B' := w.heap.size) HB1.out (Nat.le_refl _)).more HB1.out.size)
  clear hg hb1
  go_wp2_with fail
  refine (CodeBytes_any v ms w1 HV1.out HW.out HL.out).mono ?_
  rintro e w2 ⟨cv, rfl, hc, hb2⟩
  have HK2 := Lib.hid (HK1.out.below hb2 HK1.out.lt)
  have HB2 := Lib.hid (HB1.out.trans (hb2.mono (by have := HB1.out.size; omega)))
  have HG2 := Lib.hid (HG.out.below hb2 (Nat.le_refl _))
  have HC2 := Lib.hid hc.bytes
  obtain ⟨Ac, cc, hcv, _⟩ := hc.bytes
  subst hcv
  have hz2 : w1.heap.size ≤ w2.heap.size := hb2.size
  have hA3 : Below w2.heap.size w2 (w2.alloc (.cells #[.string ⟨#[109, 97, 105, 110]⟩, .slice Ac (bytesS ms).length cc] 56)) := (Below.refl _ _).alloc (Nat.le_refl _) _
  have HK3 := Lib.hid (HK2.out.alloc (.cells #[.string ⟨#[109, 97, 105, 110]⟩, .slice Ac (bytesS ms).length cc] 56))
  have HR3 := Lib.hid (rout_one (n := mainB) (Blk.new w2 56 #[.string ⟨#[109, 97, 105, 110]⟩, .slice Ac (bytesS ms).length cc]) ((HC2.out.below hA3 (Nat.le_refl _)).more hA3.size))
  have HG3 := Lib.hid ((HG2.out.below hA3 hz2).more (Nat.le_trans hz2 hA3.size))
  have HB3 := Lib.hid (HB2.out.trans (hA3.mono HB2.out.size))
  have r0 := HK3.out.cell 0
  have r1 := HK3.out.cell 1
  have f0 := HK3.out.frozen 0
  have f1 := HK3.out.frozen 1
  obtain ⟨Ag, cg, hgv, _⟩ := HG.out
  subst hgv
  clear hc hb2
  go_wp2_with fail
  refine end_cell rfl rfl (HK3.out.set2 _ _) Tryd.underlying36 rfl (by kernel_rfl) rfl ?_
  rw [← HPE.out]
  have hK4 : Blk ((w2.alloc (.cells #[.string ⟨#[109, 97, 105, 110]⟩, .slice Ac (bytesS ms).length cc] 56)).setCell ⟨w.heap.size, 0, none⟩ (.slice Ag kGlobs.length cg)) w.heap.size 36 #[.slice Ag kGlobs.length cg, .slice none 0 0] := HK3.out.set_ 0 _
  refine ⟨_, _, rfl, ?_, ?_, (HB3.out.setCell (Nat.le_refl _) _).setCell (Nat.le_refl _) _⟩
  · simpa using (HG3.out.over HK3.out _).over hK4 _
  · simpa using (HR3.out.over HK3.out _).over hK4 _
end Go.Proofs.YtkiaffaieniebaaDoor
