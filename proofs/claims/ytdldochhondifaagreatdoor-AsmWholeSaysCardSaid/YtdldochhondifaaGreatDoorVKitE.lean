/-
  Texts of the claim AsmWholeSays (KitE): what each proves stands at its theorems.
  Conditions: as the theorems say.
-/
import Derived.Test.YtdldochhondifaaGreatDoorRows
import Derived.ProofKit
import Derived.LaidMore
import Derived.Lay
import Derived.OpenShut
import Derived.MakeChecks
import Derived.Stop.Joined
import Derived.ChangeSame
import Derived.WideKeyArgs
import Derived.Deep.Slices
import Derived.Lib.SmallJoins
import Derived.Lib.LaidU8
import Derived.Test.YtdldochhondifaaGreatDoorVMacC
import Derived.Test.YtdldochhondifaaGreatDoorVKitD
import Derived.Test.YtdldochhondifaaGreatDoorVAsA
namespace Go.Proofs.YtdldochhondifaaGreatDoor
open Go.ChangeShapes Go.WideShapes Go.ChangeAt Go.WideElems Go.RowKit

theorem own : ownKnob Tryz.prog.godebug = none := by kernel_rfl
theorem laidOutAll : laidOutB Tryz.prog = true := by kernel_rfl
theorem gShapes : Tryz.prog.globalNamed "turnery/mac.shapes" = some 1 := by kernel_rfl
theorem tShapes : (Tryz.prog.globals[1]?).map (·.type) = some 171 := by kernel_rfl
def laidAll : List (String × DataW Unit) := [("math/bits.deBruijn32tab", Rows.laid_math_bits_deBruijn32tab), ("math/bits.deBruijn64tab", Rows.laid_math_bits_deBruijn64tab), ("internal/strconv.uint64pow10", Rows.laid_internal_strconv_uint64pow10), ("unicode/utf8.acceptRanges", Rows.laid_unicode_utf8_acceptRanges), ("strconv.ErrRange", Rows.laid_strconv_ErrRange), ("strconv.ErrSyntax", Rows.laid_strconv_ErrSyntax), ("turnery/mac.shapes", Rows.laid_turnery_mac_shapes), ("turnery/asm.words", Rows.laid_turnery_asm_words), ("unicode/utf8.first", Rows.laid_unicode_utf8_first)]
theorem wit_met (os : Os) (args : Array Value) : laidMetH Tryz.prog laidAll ((World.laidAll Tryz.prog os laidAll).forCall (fun _ _ => 0) ⟨#[], args, []⟩).memory := by
  rw [MakeChecks.laidMetH_plain _ _ _ (by kernel_rfl)]
  exact laidMet_laidAll _ (by kernel_rfl) (by kernel_rfl)

theorem cShape : Tryz.prog.cellsOf 129 = 4 := by kernel_rfl
theorem cBool : Tryz.prog.cellsOf 4 = 1 := by kernel_rfl
theorem cInt : Tryz.prog.cellsOf 3 = 1 := by kernel_rfl
/-- The table's datum, an entry each. -/
def shapeRow (k : Int) : DataW Unit := .agg [.lit (.bool (shD k)), .lit (.bool (shA k)), .lit (.bool (shB k)), .lit (.int .i64 (shK k))]
def shapeRows : List (DataW Unit) := match (Rows.laid_turnery_mac_shapes : DataW Unit) with | .agg xs => xs | _ => []
theorem shape_rows : (Rows.laid_turnery_mac_shapes : DataW Unit) = .agg shapeRows := rfl
theorem shape_row (k : Int) (h : inTab k) : shapeRows[k.toNat]? = some (shapeRow k) := by
  obtain ⟨h1, h2, h3, h4, h5⟩ := h
  obtain rfl | rfl | rfl | rfl | rfl | rfl | rfl | rfl | rfl | rfl | rfl | rfl | rfl | rfl | rfl :
    k = 1 ∨ k = 2 ∨ k = 3 ∨ k = 4 ∨ k = 33 ∨ k = 34 ∨ k = 35 ∨ k = 36 ∨ k = 37 ∨ k = 38 ∨ k = 39 ∨ k = 44 ∨ k = 45 ∨ k = 46 ∨ k = 47 := by omega
  all_goals kernel_rfl

theorem tab_of_laid {W : World} (h : laidMetH Tryz.prog laidAll W) : Tab W := by
  rw [MakeChecks.laidMetH_plain _ _ _ (by kernel_rfl)] at h
  obtain ⟨g0, t0, cs0, f0, p0, hg0, ht0, hv0, hd0⟩ := Lib.laidMet.reads h (n := "turnery/mac.shapes") (d := Rows.laid_turnery_mac_shapes) (.tail _ (.tail _ (.tail _ (.tail _ (.tail _ (.tail _ (.head _)))))))
  obtain rfl := Option.some.inj (gShapes.symm.trans hg0)
  obtain rfl := Option.some.inj (tShapes.symm.trans ht0)
  obtain ⟨xs, m1, rfl, hx1, hlen, hn, hel⟩ := DataW.trod_array Tryz.underlying171 hd0
  have hxs : xs.map (·.1) = shapeRows := by
    simp only [Prod.mk.injEq] at hx1
    rw [shape_rows] at hx1
    exact (DataW.agg.inj hx1.1).symm
  have hcell : ∀ i, W.cell? ⟨1, i, none⟩ = cs0[i]? := fun i => World.var?_cell hg0 hv0 i
  refine ⟨?_, fun k hk => ?_⟩
  · have h0 := hcell 0
    rcases Nat.lt_or_ge 1 W.heap.size with h | h
    · exact h
    · exfalso
      have : W.cell? ⟨1, 0, none⟩ = none := by simp [World.cell?, Array.getElem?_eq_none h]
      rw [this] at h0
      have c48 : Tryz.prog.cellsOf 171 = 192 := by kernel_rfl
      rw [c48] at hlen
      have hsz : cs0.size = 192 := by simpa using hlen
      have h1 : cs0[0]? = some (cs0[0]'(by omega)) := Array.getElem?_eq_getElem _
      rw [h1] at h0
      cases h0
  · have hrow := shape_row k hk
    have hk48 : k.toNat < 48 := by have := hk.2.1; have := hk.1; omega
    have h1 := hel k.toNat (by omega)
    rw [cShape] at h1
    rw [← hxs, List.getElem?_map] at hrow
    cases hx : xs[k.toNat]? with
    | none => rw [hx] at hrow; cases hrow
    | some x =>
      rw [hx] at h1 hrow
      simp only [Option.map_some, Option.some.injEq] at hrow
      obtain ⟨ys, n, rfl, hx2, hl2, hy, hf⟩ := DataW.trod_struct Tryz.underlying129 h1
      have g0 := hf 0 _ rfl
      have g1 := hf 1 _ rfl
      have g2 := hf 2 _ rfl
      have g3 := hf 3 _ rfl
      change DataW.trod _ _ _ _ _ _ _ 4 (List.take (Tryz.prog.cellsOf 4) (List.drop 0 _)) = _ at g0
      change DataW.trod _ _ _ _ _ _ _ 4 (List.take (Tryz.prog.cellsOf 4) (List.drop 1 _)) = _ at g1
      change DataW.trod _ _ _ _ _ _ _ 4 (List.take (Tryz.prog.cellsOf 4) (List.drop 2 _)) = _ at g2
      change DataW.trod _ _ _ _ _ _ _ 3 (List.take (Tryz.prog.cellsOf 3) (List.drop 3 _)) = _ at g3
      rw [cBool] at g0 g1 g2
      rw [cInt] at g3
      match ys, hy with
      | [y0, y1, y2, y3], _ =>
        simp only [List.getElem?_cons_zero, List.getElem?_cons_succ] at g0 g1 g2 g3
        obtain ⟨b0, e0, r0⟩ := DataW.trod_bool Tryz.underlying4 g0
        obtain ⟨b1, e1, r1⟩ := DataW.trod_bool Tryz.underlying4 g1
        obtain ⟨b2, e2, r2⟩ := DataW.trod_bool Tryz.underlying4 g2
        obtain ⟨b3, e3, r3, _⟩ := DataW.trod_int Tryz.underlying3 g3
        have hd : x.1 = .agg [.lit (.bool b0), .lit (.bool b1), .lit (.bool b2), .lit (.int .i64 b3)] := by
          rw [hx2, r0, r1, r2, r3]; rfl
        rw [hd] at hrow
        unfold shapeRow at hrow
        simp only [DataW.agg.injEq, List.cons.injEq, DataW.lit.injEq, Lit.bool.injEq, Lit.int.injEq, and_true, true_and] at hrow
        obtain ⟨rfl, rfl, rfl, rfl⟩ := hrow
        have cell : ∀ (j : Nat) (v : Value), ((cs0.toList.drop (k.toNat * 4)).take 4)[j]? = some v → W.cell? ⟨1, k.toNat * 4 + j, none⟩ = some v := by
          intro j v hj
          rw [hcell]
          rw [List.getElem?_take] at hj
          split at hj
          · rw [List.getElem?_drop] at hj
            simpa using hj
          · cases hj
        have at_ : ∀ (j off : Nat) (l : List Value) (v : Value), (l.drop off).take 1 = [v] → l[off]? = some v := by
          intro j off l v h
          have : ((l.drop off).take 1)[0]? = some v := by rw [h]; rfl
          rw [List.getElem?_take] at this
          simpa using this
        exact ⟨cell 0 _ (at_ 0 _ _ _ e0), cell 1 _ (at_ 1 _ _ _ e1), cell 2 _ (at_ 2 _ _ _ e2), cell 3 _ (at_ 3 _ _ _ e3)⟩
theorem pow_of_laid {W : World} (h : laidMetH Tryz.prog laidAll W) : Pow W := by
  rw [MakeChecks.laidMetH_plain _ _ _ (by kernel_rfl)] at h
  obtain ⟨g0, t0, cs0, f0, p0, hg0, ht0, hv0, hd0⟩ := Lib.laidMet.reads h (n := "internal/strconv.uint64pow10") (d := Rows.laid_internal_strconv_uint64pow10) (.tail _ (.tail _ (.head _)))
  obtain rfl := Option.some.inj (gPow.symm.trans hg0)
  obtain rfl := Option.some.inj ((show (Tryz.prog.globals[5]?).map (·.type) = some 236 by kernel_rfl).symm.trans ht0)
  rw [show (Rows.laid_internal_strconv_uint64pow10 : DataW Unit) = Lib.tabData .u64 Lib.pow10Tab by kernel_rfl] at hd0
  unfold Pow Lib.TabIs
  rw [hv0, ← Lib.cells_of_tab Tryz.underlying236 Tryz.underlying178 (by kernel_rfl) (by kernel_rfl) hd0]
def wordRows : List (DataW Unit) := wordTab.map fun l => .lit (.string l)
theorem word_rows : (Rows.laid_turnery_asm_words : DataW Unit) = .agg wordRows := by kernel_rfl
theorem wrd_of_laid {W : World} (h : laidMetH Tryz.prog laidAll W) : Wrd W := by
  rw [MakeChecks.laidMetH_plain _ _ _ (by kernel_rfl)] at h
  obtain ⟨g0, t0, cs0, f0, p0, hg0, ht0, hv0, hd0⟩ := Lib.laidMet.reads h (n := "turnery/asm.words") (d := Rows.laid_turnery_asm_words) (.tail _ (.tail _ (.tail _ (.tail _ (.tail _ (.tail _ (.tail _ (.head _))))))))
  obtain rfl := Option.some.inj ((show Tryz.prog.globalNamed "turnery/asm.words" = some 0 by kernel_rfl).symm.trans hg0)
  obtain rfl := Option.some.inj ((show (Tryz.prog.globals[0]?).map (·.type) = some 117 by kernel_rfl).symm.trans ht0)
  obtain ⟨xs, m1, rfl, hx1, hlen, hn, hel⟩ := DataW.trod_array Tryz.underlying117 hd0
  have hxs : xs.map (·.1) = wordRows := by
    simp only [Prod.mk.injEq] at hx1
    rw [word_rows] at hx1
    exact (DataW.agg.inj hx1.1).symm
  have hcell : ∀ i, W.cell? ⟨0, i, none⟩ = cs0[i]? := fun i => World.var?_cell hg0 hv0 i
  have cStr : Tryz.prog.cellsOf 9 = 1 := by kernel_rfl
  have c48 : Tryz.prog.cellsOf 117 = 48 := by kernel_rfl
  rw [c48] at hlen
  have hsz : cs0.size = 48 := by simpa using hlen
  refine ⟨?_, fun k x hk => ?_⟩
  · have h0 := hcell 0
    rcases Nat.lt_or_ge 0 W.heap.size with h | h
    · exact h
    · exfalso
      have : W.cell? ⟨0, 0, none⟩ = none := by simp [World.cell?, Array.getElem?_eq_none h]
      rw [this] at h0
      have h1 : cs0[0]? = some (cs0[0]'(by omega)) := Array.getElem?_eq_getElem _
      rw [h1] at h0
      cases h0
  · have hk48 : k < 48 := (List.getElem?_eq_some_iff.1 hk).1
    have h1 := hel k hk48
    rw [cStr] at h1
    have hrow : (xs.map (·.1))[k]? = some (.lit (.string x)) := by
      rw [hxs]
      unfold wordRows
      rw [List.getElem?_map, hk]
      rfl
    rw [List.getElem?_map] at hrow
    cases hx : xs[k]? with
    | none => rw [hx] at hrow; cases hrow
    | some y =>
      rw [hx] at h1 hrow
      obtain ⟨s, hs, hy, _⟩ := DataW.trod_string Tryz.underlying9 h1
      simp only [Option.map_some, Option.some.injEq] at hrow
      rw [hy] at hrow
      simp only [DataW.lit.injEq, Lit.string.injEq] at hrow
      rw [hcell]
      have h2 : ((cs0.toList.drop (k * 1)).take 1)[0]? = some (.string s) := by rw [hs]; rfl
      rw [List.getElem?_take, if_pos (by decide), List.getElem?_drop] at h2
      have h3 : cs0[k]? = some (.string s) := by simpa using h2
      have h4 : s = mkS x := by
        apply ByteArray.ext
        rw [← hrow]
        simp [mkS]
      rw [h3, h4]
end Go.Proofs.YtdldochhondifaaGreatDoor
namespace Go.Proofs.YtdldochhondifaaGreatDoor
open Go.ChangeShapes Go.WideShapes Go.ChangeAt Go.RowKit Go.Deep

theorem trodAll_below {H : Type} {enc : TypeId × Value → H} {P : Program} (hl : laidOutB P = true) {W W' : World} (hb : Below W.heap.size W W') {sp : Nat → Bool} :
    ∀ {ts : List TypeId} {vs : List Value} {ds : List (DataW H)} {ps : List MemPlace}, (∀ t ∈ ts, P.readableRec t = true ∧ t < P.types.size) →
      DataW.TrodAll enc P W 0 (fun _ => true) true ts vs ds ps → (∀ p ∈ ps, p.block < W.heap.size) → (∀ p ∈ ps, sp p.block = true) → DataW.TrodAll enc P W' 0 sp true ts vs ds ps
  | [], [], [], _, _, h, _, _ => h
  | t :: _, _ :: _, _ :: _, _, ht, ⟨p, q, h1, h2, e⟩, hlt, hs =>
    ⟨p, q, WideElems.Trod_stays hl (ht t (by simp)).1 (ht t (by simp)).2 h1 (fun x hx => hb.same (hlt x (by rw [e]; exact List.mem_append_left _ hx))) (fun x hx => hs x (by rw [e]; exact List.mem_append_left _ hx)),
      trodAll_below hl hb (fun t' ht' => ht t' (by simp [ht'])) h2 (fun x hx => hlt x (by rw [e]; exact List.mem_append_right _ hx)) (fun x hx => hs x (by rw [e]; exact List.mem_append_right _ hx)), e⟩
theorem law_post {H : Type} {enc : TypeId × Value → H} {P : Program} (hl : laidOutB P = true) {f : Func} {s : ChangeSpec} {W W' : World} {args : Array Value} {ds gs : List (DataW H)} {before : List MemPlace} {tb : TypeId}
    (hW : DataW.Whole enc P f.params.toList s.vars false W args.toList ds gs before) (hsv : s.vars = []) (hfn : s.fn H (ds ++ gs) = { results := [.lit (.bool true)], args := ds })
    (hres : f.resultTypes = #[tb]) (htb : P.underlying tb = some .bool) (hts : (f.params.toList.all fun t => P.readableRec t && decide (t < P.types.size)) = true) (hb : Below W.heap.size W W') :
    s.post enc P f false true false false W args (.bool true) W' := by
  have hlt : ∀ p ∈ before, p.block < W.heap.size := fun p hp => hW.lt p hp
  obtain ⟨p, q, hA, hV, he, hz, hn⟩ := id hW
  have hq : q = [] := by
    rw [hsv] at hV
    exact (trodVars_none hV).2
  have hbp : before = p := by rw [he, hq, List.append_nil]
  refine ⟨ds, gs, before, [], p, [], hW, ?_, ?_, ?_, World.keptBut_mono (fun x hx => ⟨hx, .inr (.inl (hbp ▸ hx))⟩) (hb.frame (· ∈ before)), fun h => by cases h⟩
  · rw [hfn, hres]
    exact trodAll_mk1 (shut_bool htb true)
  · rw [hfn]
    refine trodAll_below hl hb (fun t ht => ?_) hA (fun x hx => hlt x (hbp ▸ hx)) (fun x hx => by simpa using hlt x (hbp ▸ hx))
    have := List.all_eq_true.1 hts t ht
    simpa using this
  · rw [hfn, hsv]
    rfl

section
variable {H : Type} {enc : TypeId × Value → H} {w : World} {base fuel : Nat} {spare : Nat → Bool} {held : Bool} {x : DataW H × List MemPlace}
instance : Inhabited Mac := ⟨⟨0, 0, 0, 0, 0⟩⟩
end
end Go.Proofs.YtdldochhondifaaGreatDoor
namespace Go.Proofs.YtdldochhondifaaGreatDoor
open Go.ChangeShapes Go.WideShapes Go.ChangeAt Go.RowKit Go.Deep

end Go.Proofs.YtdldochhondifaaGreatDoor
