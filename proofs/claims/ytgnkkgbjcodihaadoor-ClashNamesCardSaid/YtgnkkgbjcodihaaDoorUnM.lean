/-
  What the tied card's frame asks of this program, and how a law's unit is opened.
  Conditions: the table turnery/code.ways starts as the program's text lays it (the card ties it).
-/
import Derived.Test.YtgnkkgbjcodihaaDoorRows
import Derived.Test.YtgnkkgbjcodihaaDoorUnO
import Derived.Test.YtgnkkgbjcodihaaDoorUnY
namespace Go.Proofs.YtgnkkgbjcodihaaDoor
open Go.ChangeShapes Go.WideShapes Go.ChangeAt Go.WideElems Go.RowKit

theorem own : ownKnob Tryd.prog.godebug = none := by kernel_rfl
theorem laidOutAll : laidOutB Tryd.prog = true := by kernel_rfl
theorem gWays : Tryd.prog.globalNamed "turnery/code.ways" = some 0 := by kernel_rfl
theorem tWays : (Tryd.prog.globals[0]?).map (·.type) = some 141 := by kernel_rfl
def laidAll : List (String × DataW Unit) := [("turnery/code.ways", Rows.laid_turnery_code_ways)]
theorem door_met (os : Os) (args : Array Value) : laidMetH Tryd.prog laidAll ((World.doorLaid Tryd.prog 400 os).forCall (fun _ _ => 0) ⟨#[], args, []⟩).memory :=
  laidMetH_of_parts3 (fuel := 8) (laidMet_of_run' 8 (by kernel_rfl) (by kernel_rfl)) (by kernel_rfl) (by kernel_rfl)
theorem ways_of_laid {W : World} (h : laidMetH Tryd.prog laidAll W) : Ways W := by
  rw [MakeChecks.laidMetH_plain _ _ _ (by kernel_rfl)] at h
  obtain ⟨ps, ⟨g0, t0, cs0, f0, p0, q0, hg0, ht0, hv0, hd0, _, _⟩, _, _⟩ := h
  obtain rfl := Option.some.inj (gWays.symm.trans hg0)
  obtain rfl := Option.some.inj (tWays.symm.trans ht0)
  obtain ⟨xs, m1, rfl, hx1, hlen, hn, hel⟩ := DataW.trod_array Tryd.underlying141 hd0
  have hxs : xs.map (·.1) = [.lit (.int .i64 0), .lit (.int .i64 0), .lit (.int .i64 1), .lit (.int .i64 2)] := by
    simp only [Prod.mk.injEq] at hx1
    exact (DataW.agg.inj hx1.1).symm
  have hcell : ∀ i, W.cell? ⟨0, i, none⟩ = cs0[i]? := fun i => World.var?_cell hg0 hv0 i
  have each : ∀ (k : Nat) (z : Int), k < 4 → (xs.map (·.1))[k]? = some (.lit (.int .i64 z)) → W.cell? ⟨0, k, none⟩ = some (.int .i64 z) := by
    intro k z hk hz
    have h1 := hel k (by simpa using hk)
    rw [cO1] at h1
    rw [List.getElem?_map] at hz
    cases hx : xs[k]? with
    | none => rw [hx] at hz; cases hz
    | some x =>
      rw [hx] at h1 hz
      simp only [Option.map_some, Option.some.injEq] at hz
      obtain ⟨b, e, r, _⟩ := DataW.trod_int Tryd.underlying3 h1
      rw [r] at hz
      simp only [DataW.lit.injEq, Lit.int.injEq, true_and] at hz
      subst hz
      rw [hcell]
      have h2 : ((cs0.toList.drop (k * 1)).take 1)[0]? = some (.int .i64 b) := by rw [e]; rfl
      rw [List.getElem?_take, if_pos (by omega), List.getElem?_drop] at h2
      simpa using h2
  have hw1 := each 1 0 (by omega) (by rw [hxs]; rfl)
  exact ⟨block_lt_of_cell hw1, hw1, each 2 1 (by omega) (by rw [hxs]; rfl), each 3 2 (by omega) (by rw [hxs]; rfl)⟩
theorem trodAll_below {H : Type} {enc : TypeId × Value → H} {P : Program} (hl : laidOutB P = true) {W W' : World} (hb : Below W.heap.size W W') {sp : Nat → Bool} :
    ∀ {ts : List TypeId} {vs : List Value} {ds : List (DataW H)} {ps : List MemPlace}, (∀ t ∈ ts, P.readableRec t = true ∧ t < P.types.size) →
      DataW.TrodAll enc P W 0 (fun _ => true) true ts vs ds ps → (∀ p ∈ ps, p.block < W.heap.size) → (∀ p ∈ ps, sp p.block = true) → DataW.TrodAll enc P W' 0 sp true ts vs ds ps
  | [], [], [], _, _, h, _, _ => h
  | t :: _, _ :: _, _ :: _, _, ht, ⟨p, q, h1, h2, e⟩, hlt, hs =>
    ⟨p, q, WideElems.Trod_stays hl (ht t (by simp)).1 (ht t (by simp)).2 h1 (fun x hx => hb.same (hlt x (by rw [e]; exact List.mem_append_left _ hx))) (fun x hx => hs x (by rw [e]; exact List.mem_append_left _ hx)),
      trodAll_below hl hb (fun t' ht' => ht t' (by simp [ht'])) h2 (fun x hx => hlt x (by rw [e]; exact List.mem_append_right _ hx)) (fun x hx => hs x (by rw [e]; exact List.mem_append_right _ hx)), e⟩
theorem law_post {H : Type} {enc : TypeId × Value → H} {P : Program} (hl : laidOutB P = true) {f : Func} {s : ChangeSpec} {W W' : World} {args : Array Value} {ds gs : List (DataW H)} {before : List MemPlace} {tb : TypeId}
    (hW : DataW.Whole enc P f.params.toList s.vars false W args.toList ds gs before) (hsv : s.vars = []) (hfn : s.fn H (ds ++ gs) = { results := [.lit (.bool true)], args := ds })
    (hres : f.resultTypes = #[tb]) (htb : P.underlying tb = some .bool) (hts : (f.params.toList.all fun t => P.readableRec t && decide (t < P.types.size)) = true) (hb : Below W.heap.size W W') :
    s.post enc P f false true false false W args (.bool true) W' := by
  have hlt : ∀ p ∈ before, p.block < W.heap.size := fun p hp => hW.lt p hp
  obtain ⟨p, q, hA, hV, he, hz, hn⟩ := id hW
  have hq : q = [] := by
    rw [hsv] at hV
    exact (trodVars_none hV).2
  have hbp : before = p := by rw [he, hq, List.append_nil]
  refine ⟨ds, gs, before, [], p, [], hW, ?_, ?_, ?_, World.keptBut_mono (fun x hx => ⟨hx, .inr (.inl (hbp ▸ hx))⟩) (hb.frame (· ∈ before)), fun h => by cases h⟩
  · rw [hfn, hres]
    exact trodAll_mk1 (shut_bool htb true)
  · rw [hfn]
    refine trodAll_below hl hb (fun t ht => ?_) hA (fun x hx => hlt x (hbp ▸ hx)) (fun x hx => by simpa using hlt x (hbp ▸ hx))
    have := List.all_eq_true.1 hts t ht
    simpa using this
  · rw [hfn, hsv]
    rfl
section
variable {H : Type} {enc : TypeId × Value → H} {w : World}
set_option maxRecDepth 100000 in
theorem int_of_trod {r : Reach} {b0 base : Nat} {spare : Nat → Bool} {held : Bool} {v : Value} {d : DataW H} {ps : List MemPlace} (hval : Value.okWide Tryd.prog w r b0 3 v) (hd : DataW.Trod enc Tryd.prog w base spare held 3 v d ps) : ∃ n, v = .int .i64 n ∧ I64 n := by
  obtain ⟨n, h, _, _, hw⟩ := open_int Tryd.underlying3 hval hd
  exact ⟨n, h, i64_of_wf hw⟩
/-- A law's unit. -/
theorem unit_of_trod {v : Value} {d : DataW H} {ps : List MemPlace} (hv : ∃ cs : Array Value, v = .agg cs) (h : DataW.Trod enc Tryd.prog w 0 (fun _ => true) true 25 v d ps) (hw : Fits Tryd.prog 25 d) (hways : Ways w) :
    ∃ gv fv gs fs, v = .agg #[gv, fv] ∧ UnitAt w w.heap.size gv fv gs fs := by
  obtain ⟨cs, rfl⟩ := hv
  obtain ⟨fu, hfu⟩ := h
  obtain ⟨gv, fv, gs, fs, hmm, hg, hf, hgo, hfo⟩ := unit_of_cells hfu hw
  obtain rfl : cs = #[gv, fv] := Array.ext' hmm
  exact ⟨gv, fv, gs, fs, rfl, hg, hf, hgo, hfo, hways, hways.lt, Nat.le_refl _⟩
end
end Go.Proofs.YtgnkkgbjcodihaaDoor
