/-
  The row's last step for a law: it returned true and made memory alone; arguments opened: a slice of instructions, an instruction, a slice of numbers.
  Conditions: none.
-/
import Derived.Test.YtliampeaecgagaaDoorKit
import Derived.Deep.Slices
import Derived.Lib.SmallJoins
namespace Go.Proofs.YtliampeaecgagaaDoor
open Go.ChangeShapes Go.WideShapes Go.ChangeAt Go.RowKit Go.Deep

theorem trodAll_below {H : Type} {enc : TypeId × Value → H} {P : Program} (hl : laidOutB P = true) {W W' : World} (hb : Below W.heap.size W W') {sp : Nat → Bool} :
    ∀ {ts : List TypeId} {vs : List Value} {ds : List (DataW H)} {ps : List MemPlace}, (∀ t ∈ ts, P.readableRec t = true ∧ t < P.types.size) →
      DataW.TrodAll enc P W 0 (fun _ => true) true ts vs ds ps → (∀ p ∈ ps, p.block < W.heap.size) → (∀ p ∈ ps, sp p.block = true) → DataW.TrodAll enc P W' 0 sp true ts vs ds ps
  | [], [], [], _, _, h, _, _ => h
  | t :: _, _ :: _, _ :: _, _, ht, ⟨p, q, h1, h2, e⟩, hlt, hs =>
    ⟨p, q, WideElems.Trod_stays hl (ht t (by simp)).1 (ht t (by simp)).2 h1 (fun x hx => hb.same (hlt x (by rw [e]; exact List.mem_append_left _ hx))) (fun x hx => hs x (by rw [e]; exact List.mem_append_left _ hx)),
      trodAll_below hl hb (fun t' ht' => ht t' (by simp [ht'])) h2 (fun x hx => hlt x (by rw [e]; exact List.mem_append_right _ hx)) (fun x hx => hs x (by rw [e]; exact List.mem_append_right _ hx)), e⟩
theorem law_post {H : Type} {enc : TypeId × Value → H} {P : Program} (hl : laidOutB P = true) {f : Func} {s : ChangeSpec} {W W' : World} {args : Array Value} {ds gs : List (DataW H)} {before : List MemPlace} {tb : TypeId}
    (hW : DataW.Whole enc P f.params.toList s.vars false W args.toList ds gs before) (hsv : s.vars = []) (hfn : s.fn H (ds ++ gs) = { results := [.lit (.bool true)], args := ds })
    (hres : f.resultTypes = #[tb]) (htb : P.underlying tb = some .bool) (hts : (f.params.toList.all fun t => P.readableRec t && decide (t < P.types.size)) = true) (hb : Below W.heap.size W W') :
    s.post enc P f false true false false W args (.bool true) W' := by
  have hlt : ∀ p ∈ before, p.block < W.heap.size := fun p hp => hW.lt p hp
  obtain ⟨p, q, hA, hV, he, hz, hn⟩ := id hW
  have hq : q = [] := by
    rw [hsv] at hV
    exact (trodVars_none hV).2
  have hbp : before = p := by rw [he, hq, List.append_nil]
  refine ⟨ds, gs, before, [], p, [], hW, ?_, ?_, ?_, World.keptBut_mono (fun x hx => ⟨hx, .inr (.inl (hbp ▸ hx))⟩) (hb.frame (· ∈ before)), fun h => by cases h⟩
  · rw [hfn, hres]
    exact trodAll_mk1 (shut_bool htb true)
  · rw [hfn]
    refine trodAll_below hl hb (fun t ht => ?_) hA (fun x hx => hlt x (hbp ▸ hx)) (fun x hx => by simpa using hlt x (hbp ▸ hx))
    have := List.all_eq_true.1 hts t ht
    simpa using this
  · rw [hfn, hsv]
    rfl

section
variable {H : Type} {enc : TypeId × Value → H} {w : World} {base fuel : Nat} {spare : Nat → Bool} {held : Bool} {x : DataW H × List MemPlace}
theorem i64_of_wf {n : Int} (h : (Lit.int .i64 n).wf = true) : I64 n := by
  simp only [Lit.wf, Bool.and_eq_true, decide_eq_true_eq] at h
  exact h
theorem len5 {α : Type} : ∀ {l : List α}, l.length = 5 → ∃ a b c d e, l = [a, b, c, d, e]
  | [a, b, c, d, e], _ => ⟨a, b, c, d, e, rfl⟩
/-- An instruction's five cells. -/
theorem mac_of_trod {cs : List Value} (h : DataW.trod enc Tryd.prog w base spare held fuel 36 cs = some x) : ∃ m : Mac, cs = m.cells ∧ m.ok := by
  obtain ⟨ys, n, rfl, _, hl, hy, hf⟩ := DataW.trod_struct Tryd.underlying36 h
  have c5 : Tryd.prog.cellsOf 36 = 5 := by kernel_rfl
  rw [c5] at hl
  obtain ⟨v0, v1, v2, v3, v4, rfl⟩ := len5 hl
  obtain ⟨y0, y1, y2, y3, y4, rfl⟩ := len5 (hy.trans rfl)
  have g0 := hf 0 _ rfl
  have g1 := hf 1 _ rfl
  have g2 := hf 2 _ rfl
  have g3 := hf 3 _ rfl
  have g4 := hf 4 _ rfl
  change DataW.trod _ _ _ _ _ _ _ 3 (List.take (Tryd.prog.cellsOf 3) (List.drop 0 _)) = _ at g0
  change DataW.trod _ _ _ _ _ _ _ 3 (List.take (Tryd.prog.cellsOf 3) (List.drop 1 _)) = _ at g1
  change DataW.trod _ _ _ _ _ _ _ 3 (List.take (Tryd.prog.cellsOf 3) (List.drop 2 _)) = _ at g2
  change DataW.trod _ _ _ _ _ _ _ 3 (List.take (Tryd.prog.cellsOf 3) (List.drop 3 _)) = _ at g3
  change DataW.trod _ _ _ _ _ _ _ 3 (List.take (Tryd.prog.cellsOf 3) (List.drop 4 _)) = _ at g4
  rw [cInt] at g0 g1 g2 g3 g4
  simp only [List.getElem?_cons_zero, List.getElem?_cons_succ, List.drop_zero, List.drop_succ_cons, List.take_succ_cons, List.take_zero] at g0 g1 g2 g3 g4
  obtain ⟨b0, e0, _, k0⟩ := DataW.trod_int Tryd.underlying3 g0
  obtain ⟨b1, e1, _, k1⟩ := DataW.trod_int Tryd.underlying3 g1
  obtain ⟨b2, e2, _, k2⟩ := DataW.trod_int Tryd.underlying3 g2
  obtain ⟨b3, e3, _, k3⟩ := DataW.trod_int Tryd.underlying3 g3
  obtain ⟨b4, e4, _, k4⟩ := DataW.trod_int Tryd.underlying3 g4
  simp only [List.cons.injEq, and_true] at e0 e1 e2 e3 e4
  subst e0; subst e1; subst e2; subst e3; subst e4
  exact ⟨⟨b0, b1, b2, b3, b4⟩, rfl, ⟨i64_of_wf k0, i64_of_wf k1, i64_of_wf k2, i64_of_wf k3, i64_of_wf k4⟩⟩

instance : Inhabited Mac := ⟨⟨0, 0, 0, 0, 0⟩⟩
theorem spot_none {w : World} {a : Addr} {v : Value} (h : w.cell? a = some v) : a = ⟨a.block, a.off, none⟩ := by
  obtain ⟨b, o, s⟩ := a
  cases s with
  | none => rfl
  | some k =>
    unfold World.cell? at h
    split at h <;> simp at h
/-- A slice of instructions. -/
theorem macs_of_trod {v : Value} {d : DataW H} {ps : List MemPlace} (hv : ∃ a len cap, v = .slice a len cap) (h : DataW.Trod enc Tryd.prog w 0 (fun _ => true) true 23 v d ps) :
    ∃ ms : List Mac, MacsAt w w.heap.size v ms ∧ ∀ m ∈ ms, m.ok := by
  obtain ⟨fuel, hf⟩ := h
  obtain ⟨a', len', cap', rfl⟩ := hv
  have c5 : Tryd.prog.cellsOf 36 = 5 := by kernel_rfl
  rcases open_slice Tryd.underlying23 hf with ⟨hcs, _⟩ | ⟨a, len, cap, m, n, D, Pl, hcs, _, hl, hm, hmm, _, hi⟩
  · simp only [Value.cells, List.cons.injEq, and_true] at hcs
    rw [hcs]
    exact ⟨[], ⟨none, 0, rfl, by simp, by simp, fun h => by simp at h⟩, fun m hm => by cases hm⟩
  · simp only [Value.cells, List.cons.injEq, and_true] at hcs
    rw [hcs]
    simp only [if_true] at hmm
    have each : ∀ i, i < len → ∃ m : Mac, m.ok ∧ ∀ j u, m.cells[j]? = some u → w.cell? ((a.add (i * 5)).add j) = some u := by
      intro i hil
      obtain ⟨cs', hc, ht⟩ := hi i (by omega)
      rw [c5] at hc
      obtain ⟨mm, rfl, hok⟩ := mac_of_trod ht
      obtain ⟨_, hcl, hat⟩ := World.cells?_some hc
      refine ⟨mm, hok, fun j u hj => ?_⟩
      have hj5 : j < 5 := by
        rcases Nat.lt_or_ge j 5 with h | h
        · exact h
        · rw [List.getElem?_eq_none (by simpa [Mac.cells] using h)] at hj; cases hj
      rw [hat j hj5]
      exact hj
    obtain ⟨f, hfm⟩ := choose_lt (n := len) (p := fun i (m : Mac) => m.ok ∧ ∀ j u, m.cells[j]? = some u → w.cell? ((a.add (i * 5)).add j) = some u) each
    refine ⟨(List.range len).map f, ⟨some a, cap, by simp, by simpa using hl, by unfold maxLen at hm; simp; omega, fun hpos => ?_⟩, fun m hm' => ?_⟩
    · simp only [List.length_map, List.length_range] at hpos
      have h0 := (hfm 0 hpos).2 0 (.int .i64 (f 0).op) rfl
      have ha0 : (a.add (0 * 5)).add 0 = a := by simp [Addr.add]
      rw [ha0] at h0
      have hs := spot_none h0
      refine ⟨a.block, a.off, by rw [← hs], World.block_lt_of_cell? _ _ h0, fun k m hk => ?_⟩
      have hkl : k < len := by
        have := (List.getElem?_eq_some_iff.1 hk).1
        simpa using this
      have hkm : m = f k := by
        rw [List.getElem?_map, List.getElem?_range hkl] at hk
        simpa using hk.symm
      subst hkm
      have hadd : ∀ i j : Nat, (a.add (i * 5)).add j = ⟨a.block, a.off + i * 5 + j, none⟩ := by
        intro i j
        rw [hs]
        unfold Addr.add
        by_cases h1 : i * 5 = 0 <;> by_cases h2 : j = 0 <;> simp [h1, h2]
      have hc := fun j u hj => (hadd k j) ▸ (hfm k hkl).2 j u hj
      exact ⟨by simpa using hc 0 _ rfl, hc 1 _ rfl, hc 2 _ rfl, hc 3 _ rfl, hc 4 _ rfl⟩
    · obtain ⟨i, hi', rfl⟩ := List.mem_map.1 hm'
      exact (hfm i (by simpa using hi')).1
end
end Go.Proofs.YtliampeaecgagaaDoor
