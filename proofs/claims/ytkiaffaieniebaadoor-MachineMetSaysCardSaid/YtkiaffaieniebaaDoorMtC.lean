/-
  Several texts in one (MtA MtB MtC): what each proves stands at its theorems.
  Conditions: as the theorems say.
-/
import Derived.Test.YtkiaffaieniebaaDoorRuJ
import Derived.Test.YtkiaffaieniebaaDoorKitE
import Derived.DeepKeys4
import Derived.WideKeyEntry
import Derived.Maps.Keyed
import Derived.Test.YtkiaffaieniebaaDoorRuU
import Derived.Test.YtkiaffaieniebaaDoorLiD
namespace Go.Proofs.YtkiaffaieniebaaDoor
open Go.RowKit
open Go.MapKept (Stamped stamped_empty stamped_push stamped_modify stamped_iff)
open Go.ChangeMaps (setBlock heap_setBlock_same heap_setBlock_other modify_eq_set)
open Go.WideElems (findIdx_born findIdx_arr modify_last set_self)

/-- A position as a key. -/
def keyV (p : Nat × Nat) : Value := .agg #[.int .i64 (p.1 : Int), .int .i64 (p.2 : Int)]
theorem keyV_inj {p q : Nat × Nat} (h : keyV p = keyV q) : p = q := by
  unfold keyV at h
  simp only [Value.agg.injEq, Array.mk.injEq, List.cons.injEq, Value.int.injEq, true_and, and_true] at h
  exact Prod.ext (by omega) (by omega)
theorem metWide : (match Tryd.prog.underlying 70 with | some (.array _ _) | some (.struct _) => true | _ => false) = true := by rw [Tryd.underlying70]
set_option maxRecDepth 100000 in
theorem metRow : (70 : TypeId) < Tryd.prog.types.size := of_decide_eq_true (by kernel_rfl)
set_option maxRecDepth 100000 in
theorem metKeyAt : Tryd.prog.keyTypeAt 2 70 = true := by kernel_rfl
set_option maxRecDepth 100000 in
theorem metLaw : WideMaps.KeyLaw Tryd.prog 70 := deep_law_laid laidOutAll (m := 2) (by omega) metRow metKeyAt metWide
theorem metCells : Tryd.prog.cellsOf 70 = 2 := by kernel_rfl
theorem metCell1 : Tryd.prog.cellsOf 3 = 1 := by kernel_rfl
set_option maxRecDepth 100000 in
theorem metKeyType : Tryd.prog.keyType 70 = true := by kernel_rfl
theorem lits_two {P : Program} {t e : TypeId} (hu : P.underlying t = some (.array 2 e)) (he : P.underlying e = some (.int .i64)) (ht : P.cellsOf t = 2) (h1 : P.cellsOf e = 1) (d : Nat) {a b : Int} (wa : (Lit.int .i64 a).wf = true) (wb : (Lit.int .i64 b).wf = true) :
    P.keyLits (d + 2) t [.int .i64 a, .int .i64 b] = some [.int .i64 a, .int .i64 b] := by
  have one : ∀ {c : Int}, (Lit.int .i64 c).wf = true → P.keyLits (d + 1) e [.int .i64 c] = some [.int .i64 c] := fun hc => by
    unfold Program.keyLits
    rw [he]
    simp only [hc, and_self, if_true]
  unfold Program.keyLits
  rw [hu]
  simp only [List.length_cons, List.length_nil, ht, if_true, h1]
  rw [show List.range 2 = [0, 1] from rfl]
  simp only [List.mapM_cons, List.mapM_nil, Nat.zero_mul, List.drop_zero, Nat.one_mul, List.take_succ_cons, List.take_zero, List.drop_succ_cons, one wa, one wb]
  rfl
theorem wf_small {n : Int} (h0 : 0 ≤ n) (h1 : n < 5000) : (Lit.int .i64 n).wf = true := by
  unfold Lit.wf
  rw [Bool.and_eq_true]
  exact ⟨decide_eq_true (show (-9223372036854775808 : Int) ≤ n by omega), decide_eq_true (show n ≤ (9223372036854775807 : Int) by omega)⟩
theorem keyV_read (p : Nat × Nat) (h1 : p.1 < 5000) (h2 : p.2 < 5000) : ∃ kl, keyOf Tryd.prog 70 (keyV p) = some kl := by
  have w1 : (Lit.int .i64 (p.1 : Int)).wf = true := wf_small (by omega) (by omega)
  have w2 : (Lit.int .i64 (p.2 : Int)).wf = true := wf_small (by omega) (by omega)
  obtain ⟨d, hd⟩ : ∃ d, Tryd.prog.types.size + 1 = d + 2 := ⟨Tryd.prog.types.size - 1, by have h : 70 < Tryd.prog.types.size := metRow; omega⟩
  refine ⟨.string (keyBytes [.int .i64 (p.1 : Int), .int .i64 (p.2 : Int)]), ?_⟩
  have hl := lits_two Tryd.underlying70 Tryd.underlying3 metCells metCell1 d w1 w2
  have hf : (keyV p).formed Tryd.prog 70 = true := by
    unfold keyV Value.formed
    rw [Tryd.underlying70, metCells]
    rfl
  unfold keyOf
  rw [Tryd.underlying70]
  simp only [metKeyType, hf, Bool.and_self, if_true]
  rw [hd]
  show Option.map _ (Tryd.prog.keyLits (d + 2) 70 [.int .i64 (p.1 : Int), .int .i64 (p.2 : Int)]) = _
  rw [hl]
  rfl
/-- What the map holds at a position. -/
def cntV (tr : List (Nat × Nat)) (p : Nat × Nat) : Value := .int .i64 (IntKind.i64.wrap (tr.count p : Int))
def MetEs (tr : List (Nat × Nat)) (es : Array MapEntry) (clock : Nat) : Prop :=
  Stamped es clock ∧ (∀ x ∈ es.toList, ∃ p : Nat × Nat, p.1 < 5000 ∧ p.2 < 5000 ∧ x.key = keyV p ∧ x.val = cntV tr p) ∧ ∀ p ∈ tr, ∃ x ∈ es.toList, x.key = keyV p
/-- Block b is a map that counts the positions tr. -/
def MetMap (w : World) (b : Nat) (tr : List (Nat × Nat)) : Prop := ∃ es clock, w.heap[b]? = some (.map es clock) ∧ MetEs tr es clock
/-- .. and holds an entry of the position p, born at st. -/
def MetMid (w : World) (b : Nat) (tr : List (Nat × Nat)) (p : Nat × Nat) (st : Nat) : Prop :=
  ∃ (es : Array MapEntry) (clock j : Nat) (e0 : MapEntry), w.heap[b]? = some (.map es clock) ∧ MetEs tr es clock ∧ es.toList[j]? = some e0 ∧ e0.key = keyV p ∧ e0.born = st
section
variable {w w' : World} {b st : Nat} {tr : List (Nat × Nat)} {p : Nat × Nat}
theorem MetMap.made (w : World) : MetMap (w.alloc (.map #[] 0)) w.heap.size [] := ⟨#[], 0, (MapKept.heap_alloc w _).1, stamped_empty 0, by simp, by simp⟩
theorem MetMap.lt (h : MetMap w b tr) : b < w.heap.size := by
  obtain ⟨es, clock, hb, _⟩ := h
  exact (Array.getElem?_eq_some_iff.1 hb).1
theorem MetMap.stay (h : MetMap w b tr) (hb : w'.heap[b]? = w.heap[b]?) : MetMap w' b tr := by
  obtain ⟨es, clock, h1, h2⟩ := h
  exact ⟨es, clock, hb.trans h1, h2⟩
theorem MetMid.map (h : MetMid w b tr p st) : MetMap w b tr := by
  obtain ⟨es, clock, j, e0, h1, h2, _⟩ := h
  exact ⟨es, clock, h1, h2⟩
theorem MetMid.stay (h : MetMid w b tr p st) (hb : w'.heap[b]? = w.heap[b]?) : MetMid w' b tr p st := by
  obtain ⟨es, clock, j, e0, h1, h2⟩ := h
  exact ⟨es, clock, j, e0, hb.trans h1, h2⟩
theorem MetEs.keys {es : Array MapEntry} {clock : Nat} (h : MetEs tr es clock) : ∀ e ∈ es.toList, ∃ l, keyOf Tryd.prog 70 e.key = some l := fun e he => by
  obtain ⟨q, h1, h2, h3, _⟩ := h.2.1 e he
  rw [h3]
  exact keyV_read q h1 h2
theorem cnt_none (h : p ∉ tr) : cntV tr p = .int .i64 0 := by
  unfold cntV
  rw [List.count_eq_zero.2 h]
  rfl
theorem MetEs.miss {es : Array MapEntry} {clock : Nat} (h : MetEs tr es clock) (hn : ∀ x ∈ es.toList, x.key ≠ keyV p) : p ∉ tr := fun hp => by
  obtain ⟨x, hx, hk⟩ := h.2.2 p hp
  exact hn x hx hk
theorem MetEs.val {es : Array MapEntry} {clock : Nat} (h : MetEs tr es clock) {x : MapEntry} (hx : x ∈ es.toList) (hk : x.key = keyV p) : x.val = cntV tr p := by
  obtain ⟨q, _, _, h3, h4⟩ := h.2.1 x hx
  rw [h4, keyV_inj (h3.symm.trans hk)]
/-- Reading. -/
theorem met_look (h : MetMap w b tr) (h1 : p.1 < 5000) (h2 : p.2 < 5000) : (Instr.lookup 69 (.map (some b)) (keyV p) false).run Tryd.prog w = .ok (cntV tr p) w := by
  obtain ⟨es, clock, hb, hE⟩ := h
  obtain ⟨kl, hkey⟩ := keyV_read p h1 h2
  rcases metLaw.find w hkey es.toList hE.keys with ⟨g1, g2⟩ | ⟨j, e0, g1, g2, g3⟩
  · rw [cnt_none (hE.miss g2)]
    simp [Instr.lookup, run_underlying Tryd.underlying69, MapKept.run_getObj_map hb, metLaw.check w _ hkey, g1, Result.andThen]
  · rw [← hE.val (List.mem_of_getElem? g2) g3]
    simp [Instr.lookup, run_underlying Tryd.underlying69, MapKept.run_getObj_map hb, metLaw.check w _ hkey, g1, Result.andThen]
/-- The entry. -/
theorem met_entry (h : MetMap w b tr) (h1 : p.1 < 5000) (h2 : p.2 < 5000) : ∃ st o, (Instr.mapEntry 69 (.map (some b)) (keyV p)).run Tryd.prog w = .ok (.tuple #[cntV tr p, .int .i64 ((st : Nat) : Int)]) (setBlock w b o) ∧ MetMid (setBlock w b o) b tr p st := by
  obtain ⟨es, clock, hb, hE⟩ := h
  obtain ⟨kl, hkey⟩ := keyV_read p h1 h2
  rcases metLaw.find w hkey es.toList hE.keys with ⟨g1, g2⟩ | ⟨j, e0, g1, g2, g3⟩
  · have hz := cnt_none (hE.miss g2)
    refine ⟨clock, .map (es.push ⟨keyV p, .int .i64 0, clock⟩) (clock + 1), ?_, es.push ⟨keyV p, .int .i64 0, clock⟩, clock + 1, es.size, ⟨keyV p, .int .i64 0, clock⟩, heap_setBlock_same hb _, ⟨stamped_push hE.1 g2, fun x hx => ?_, fun q hq => ?_⟩, by simp, rfl, rfl⟩
    · rw [hz]
      simp [Instr.mapEntry, run_underlying Tryd.underlying69, MapKept.run_getObj_map hb, metLaw.check w false hkey, g1, MapKept.run_setObj_map _ hb, Result.andThen, setBlock, goInt]
    · simp only [Array.toList_push, List.mem_append, List.mem_singleton] at hx
      rcases hx with hx | rfl
      · exact hE.2.1 x hx
      · exact ⟨p, h1, h2, rfl, hz.symm⟩
    · obtain ⟨x, hx, hk⟩ := hE.2.2 q hq
      exact ⟨x, by simp [hx], hk⟩
  · have hj : es[j]? = some e0 := by simpa using g2
    have hsame : es.modify j (fun e => { e with key := keyV p }) = es := by
      apply Array.ext'
      rw [Array.toList_modify, modify_eq_set _ _ _ _ g2]
      have : ({ e0 with key := keyV p } : MapEntry) = e0 := by rw [← g3]
      rw [this]
      exact set_self _ _ _ g2
    refine ⟨e0.born, .map es clock, ?_, es, clock, j, e0, heap_setBlock_same hb _, hE, g2, g3, rfl⟩
    rw [← hE.val (List.mem_of_getElem? g2) g3]
    simp [Instr.mapEntry, run_underlying Tryd.underlying69, MapKept.run_getObj_map hb, metLaw.check w false hkey, g1, hj, g3, metLaw.stays w hkey, hsame, MapKept.run_setObj_map _ hb, Result.andThen, setBlock, goInt]
/-- The store into the entry. -/
theorem met_store (h : MetMid w b tr p st) (h1 : p.1 < 5000) (h2 : p.2 < 5000) : ∃ o, (Instr.entryStore 69 (.map (some b)) (.int .i64 ((st : Nat) : Int)) (cntV (tr ++ [p]) p)).run Tryd.prog w = .ok () (setBlock w b o) ∧ MetMap (setBlock w b o) b (tr ++ [p]) := by
  obtain ⟨es, clock, j, e0, hb, hE, g2, g3, rfl⟩ := h
  have hidx : es.findIdx? (fun e => ((e.born : Nat) : Int) == ((e0.born : Nat) : Int)) = some j := by
    rw [findIdx_arr]
    exact findIdx_born hE.1.2.1 g2
  have hj : es[j]? = some e0 := by simpa using g2
  refine ⟨.map (es.modify j fun e => { e with val := cntV (tr ++ [p]) p }) clock, ?_, es.modify j fun e => { e with val := cntV (tr ++ [p]) p }, clock, heap_setBlock_same hb _, stamped_modify hE.1 _ _ (fun _ _ => rfl) (fun _ _ _ => rfl), fun x hx => ?_, fun q hq => ?_⟩
  · simp [Instr.entryStore, MapKept.run_getObj_map hb, asInt, asIntOf, hidx, MapKept.run_setObj_map _ hb, Result.andThen, setBlock]
  · rw [Array.toList_modify, modify_eq_set _ _ _ _ g2] at hx
    obtain ⟨i, hi, ex⟩ := List.getElem_of_mem hx
    rw [List.getElem_set] at ex
    split at ex
    · subst ex
      exact ⟨p, h1, h2, g3, rfl⟩
    · rename_i hne
      have hi' : i < es.toList.length := by simpa using hi
      have hxm : x ∈ es.toList := ex ▸ List.getElem_mem hi'
      obtain ⟨q, q1, q2, q3, q4⟩ := hE.2.1 x hxm
      refine ⟨q, q1, q2, q3, ?_⟩
      rw [q4]
      have hqp : q ≠ p := fun e => by
        subst e
        have hn := ((stamped_iff es clock).1 hE.1).2.2
        have hjl := (List.getElem?_eq_some_iff.1 g2).1
        have e2 := (List.getElem?_eq_some_iff.1 g2).2
        have hk : es.toList[i].key = es.toList[j].key := by rw [ex, e2, q3, g3]
        rcases Nat.lt_or_gt_of_ne hne with hh | hh
        · exact List.pairwise_iff_getElem.1 hn j i hjl hi' hh hk.symm
        · exact List.pairwise_iff_getElem.1 hn i j hi' hjl hh hk
      unfold cntV
      rw [List.count_append, List.count_singleton, if_neg (by simpa using fun e => hqp e.symm)]
      rfl
  · have hm := List.mem_append.1 hq
    rw [Array.toList_modify, modify_eq_set _ _ _ _ g2]
    rcases hm with hm | hm
    · obtain ⟨x, hx, hk⟩ := hE.2.2 q hm
      by_cases e : q = p
      · subst e
        exact ⟨{ e0 with val := cntV (tr ++ [q]) q }, List.mem_set (by exact (List.getElem?_eq_some_iff.1 g2).1) _, g3⟩
      · obtain ⟨i, hi, ex⟩ := List.getElem_of_mem hx
        have hij : j ≠ i := fun h => by
          subst h
          rw [List.getElem?_eq_getElem hi, ex] at g2
          cases g2
          exact e (keyV_inj (hk.symm.trans g3))
        refine ⟨x, List.mem_iff_getElem?.2 ⟨i, ?_⟩, hk⟩
        rw [List.getElem?_set, if_neg hij, List.getElem?_eq_getElem hi, ex]
    · rw [List.mem_singleton.1 hm]
      exact ⟨{ e0 with val := cntV (tr ++ [p]) p }, List.mem_set (by exact (List.getElem?_eq_some_iff.1 g2).1) _, g3⟩
end
end Go.Proofs.YtkiaffaieniebaaDoor
namespace Go.Proofs.YtkiaffaieniebaaDoor
open Go.RowKit
open Go.ChangeMaps (setBlock heap_setBlock_same heap_setBlock_other)

/-- What has been done of 'many[..]++', and what the world holds of it. -/
structure MetRun (pv : Nat → Option Value) (bm : Nat) (tr : List (Nat × Nat)) (p : Nat × Nat) (W0 : World) (σ : Nat → Option Value) (W : World) : Prop where
  known : ∀ j v, pv j = some v → ∀ u, σ j = some u → u = v
  heap : ∀ k, k ≠ bm → W.heap[k]? = W0.heap[k]?
  size : W.heap.size = W0.heap.size
  os : W.os = W0.os
  tape : W.tape = W0.tape
  output : W.output = W0.output
  ahead : σ 6 = none → MetMap W bm tr
  mid : ∃ st : Nat, (∀ u, σ 6 = some u → u = .tuple #[cntV tr p, .int .i64 (st : Int)] ∧ (σ 8 = none → MetMid W bm tr p st) ∧ (∀ t, σ 8 = some t → MetMap W bm (tr ++ [p]))) ∧ (∀ u, σ 7 = some u → u = .int .i64 (st : Int))
def slots3 : List Nat := [6, 7, 8]
section
variable {pv σ : Nat → Option Value} {bm : Nat} {tr : List (Nat × Nat)} {p : Nat × Nat} {W0 W : World}
theorem MetRun.start (hm : MetMap W0 bm tr) : MetRun pv bm tr p W0 (fun _ => none) { W0 with drawn := W0.drawn + 1 } :=
  ⟨by simp, fun _ _ => rfl, rfl, rfl, rfl, rfl, fun _ => hm.stay rfl, 0, by simp, by simp⟩
theorem MetRun.val (h : MetRun pv bm tr p W0 σ W) {j : Nat} {u v : Value} (hu : σ j = some u) (hv : pv j = some v) : u = v := h.known j v hv u hu
theorem MetRun.put (h : MetRun pv bm tr p W0 σ W) {k : Nat} {v : Value} (hk : pv k = some v) (hd : ∀ j ∈ slots3, pv j = none) : MetRun pv bm tr p W0 (upd σ k v) W := by
  have ne : ∀ j ∈ slots3, upd σ k v j = σ j := fun j hj => upd_ne fun e => by rw [← e, hd j hj] at hk; cases hk
  simp only [slots3, List.forall_mem_cons, List.not_mem_nil, false_implies, implies_true, and_true] at ne
  obtain ⟨n6, n7, n8⟩ := ne
  refine ⟨fun j v' hj u hu => ?_, h.heap, h.size, h.os, h.tape, h.output, by rw [n6]; exact h.ahead, by rw [n6, n7, n8]; exact h.mid⟩
  by_cases e : j = k
  · subst e
    rw [upd_same] at hu
    rw [hk] at hj
    cases hj
    cases hu
    rfl
  · rw [upd_ne e] at hu
    exact h.known j v' hj u hu
theorem MetRun.keepK (h : MetRun pv bm tr p W0 σ W) (hd : ∀ j ∈ slots3, pv j = none) {k : Nat} (hk : k ∈ slots3) (x : Value) : ∀ j v, pv j = some v → ∀ u, upd σ k x j = some u → u = v := by
  intro j v hj u hu
  rw [upd_ne (fun e => by subst e; rw [hd _ hk] at hj; cases hj)] at hu
  exact h.known j v hj u hu
theorem MetRun.map (h : MetRun pv bm tr p W0 σ W) (h8 : σ 8 = none) : MetMap W bm tr := by
  cases h6 : σ 6 with
  | none => exact h.ahead h6
  | some u =>
    obtain ⟨st, h1, _⟩ := h.mid
    exact ((h1 u h6).2.1 h8).map
theorem MetRun.block {es : Array MapEntry} {clock : Nat} (h : MetRun pv bm tr p W0 σ W) (hb : W.heap[bm]? = some (.map es clock)) (o : Obj) :
    (∀ k, k ≠ bm → (setBlock W bm o).heap[k]? = W0.heap[k]?) ∧ (setBlock W bm o).heap.size = W0.heap.size ∧ (setBlock W bm o).os = W0.os ∧ (setBlock W bm o).tape = W0.tape ∧ (setBlock W bm o).output = W0.output :=
  ⟨fun k hk => (heap_setBlock_other hb o hk).trans (h.heap k hk), by simp [setBlock, h.size], h.os, h.tape, h.output⟩
theorem MetRun.entry (h : MetRun pv bm tr p W0 σ W) (hd : ∀ j ∈ slots3, pv j = none) (h6 : σ 6 = none) (h7 : σ 7 = none) (h8 : σ 8 = none) {st : Nat} {o : Obj} (hm : MetMid (setBlock W bm o) bm tr p st) :
    MetRun pv bm tr p W0 (upd σ 6 (.tuple #[cntV tr p, .int .i64 (st : Int)])) (setBlock W bm o) := by
  obtain ⟨es, clock, hb, _⟩ := h.ahead h6
  obtain ⟨q1, q2, q3, q4, q5⟩ := h.block hb o
  refine ⟨h.keepK hd (by simp [slots3]) _, q1, q2, q3, q4, q5, fun hn => ?_, st, fun u hu => ?_, fun u hu => ?_⟩
  · rw [upd_same] at hn; cases hn
  · rw [upd_same] at hu
    cases hu
    exact ⟨rfl, fun _ => hm, fun t ht => by rw [upd_ne (by decide), h8] at ht; cases ht⟩
  · rw [upd_ne (by decide), h7] at hu; cases hu
theorem MetRun.isEntry (h : MetRun pv bm tr p W0 σ W) (hd : ∀ j ∈ slots3, pv j = none) {u : Value} (hu : σ 6 = some u) : ∃ st : Nat, u = .tuple #[cntV tr p, .int .i64 (st : Int)] ∧ MetRun pv bm tr p W0 (upd σ 7 (.int .i64 (st : Int))) W := by
  obtain ⟨st, h1, h2⟩ := h.mid
  refine ⟨st, (h1 u hu).1, h.keepK hd (by simp [slots3]) _, h.heap, h.size, h.os, h.tape, h.output, by rw [upd_ne (by decide)]; exact h.ahead, st, by rw [upd_ne (by decide), upd_ne (by decide)]; exact h1, fun x hx => ?_⟩
  rw [upd_same] at hx
  cases hx
  rfl
theorem MetRun.isStamp (h : MetRun pv bm tr p W0 σ W) (h8 : σ 8 = none) {u v : Value} (hu : σ 6 = some u) (hv : σ 7 = some v) : ∃ st : Nat, v = .int .i64 (st : Int) ∧ MetMid W bm tr p st := by
  obtain ⟨st, h1, h2⟩ := h.mid
  exact ⟨st, h2 v hv, (h1 u hu).2.1 h8⟩
theorem MetRun.store (h : MetRun pv bm tr p W0 σ W) (hd : ∀ j ∈ slots3, pv j = none) (h8 : σ 8 = none) {u : Value} (hu : σ 6 = some u) {o : Obj} (hm : MetMap (setBlock W bm o) bm (tr ++ [p])) : MetRun pv bm tr p W0 (upd σ 8 undef) (setBlock W bm o) := by
  obtain ⟨st, h1, h2⟩ := h.mid
  obtain ⟨es, clock, hb, _⟩ := ((h1 u hu).2.1 h8).map
  obtain ⟨q1, q2, q3, q4, q5⟩ := h.block hb o
  refine ⟨h.keepK hd (by simp [slots3]) _, q1, q2, q3, q4, q5, fun hn => ?_, st, fun x hx => ⟨?_, fun hn => ?_, fun _ _ => hm⟩, by rw [upd_ne (by decide)]; exact h2⟩
  · rw [upd_ne (by decide), hu] at hn; cases hn
  · rw [upd_ne (by decide)] at hx; exact (h1 x hx).1
  · rw [upd_same] at hn; cases hn
theorem MetRun.done (h : MetRun pv bm tr p W0 σ W) {u t : Value} (hu : σ 6 = some u) (ht : σ 8 = some t) : MetMap W bm (tr ++ [p]) ∧ (∀ k, k ≠ bm → W.heap[k]? = W0.heap[k]?) ∧ W.heap.size = W0.heap.size ∧ W.os = W0.os ∧ W.tape = W0.tape ∧ W.output = W0.output := by
  obtain ⟨st, h1, h2⟩ := h.mid
  exact ⟨(h1 u hu).2.2 t ht, h.heap, h.size, h.os, h.tape, h.output⟩
def pvM (m r pc key c c1 : Value) : Nat → Option Value
  | 0 => some m
  | 1 => some r
  | 2 => some pc
  | 3 => some key
  | 4 => some c
  | 5 => some c1
  | _ => none
theorem pvM_no (m r pc key c c1 : Value) : ∀ j ∈ slots3, pvM m r pc key c c1 j = none := by
  intro j hj
  simp only [slots3, List.mem_cons, List.not_mem_nil, or_false] at hj
  rcases hj with rfl | rfl | rfl <;> rfl
end
theorem cnt_next (tr : List (Nat × Nat)) (p : Nat × Nat) : IntKind.i64.wrap (IntKind.i64.wrap (tr.count p : Int) + 1) = IntKind.i64.wrap ((tr ++ [p]).count p : Int) := by
  rw [List.count_append, List.count_singleton, if_pos (by simp), IntKind.wrap_i64, IntKind.wrap_i64, IntKind.wrap_i64]
  push_cast
  omega
set_option maxRecDepth 100000 in
set_option maxHeartbeats 2000000 in
theorem met1_any (r pc bm g9 : Nat) (tr : List (Nat × Nat)) (W : World) (h1 : r < 5000) (h2 : pc < 5000) (hk : Blk W g9 69 #[.map (some bm)]) (hm : MetMap W bm tr) :
    Calls Tryd.prog 36 #[.int .i64 (r : Int), .int .i64 (pc : Int), .pointer (some ⟨g9, 0, none⟩)] W fun e w' => e = .returned (.tuple #[]) ∧ MetMap w' bm (tr ++ [(r, pc)]) ∧ (∀ k, k ≠ bm → w'.heap[k]? = W.heap[k]?) ∧ w'.heap.size = W.heap.size ∧ w'.os = W.os ∧ w'.tape = W.tape ∧ w'.output = W.output := by
  have hne : g9 ≠ bm := fun e => by
    subst e
    obtain ⟨es, clock, hb, _⟩ := hm
    unfold Blk at hk
    rw [hk] at hb
    cases hb
  obtain ⟨p, hp⟩ : ∃ p : Nat × Nat, (r, pc) = p := ⟨_, rfl⟩
  have hp1 : p.1 < 5000 := by rw [← hp]; exact h1
  have hp2 : p.2 < 5000 := by rw [← hp]; exact h2
  have hkv : (.agg #[.int .i64 (r : Int), .int .i64 (pc : Int)] : Value) = keyV p := by rw [← hp]; rfl
  rw [hp]
  have HKv := Lib.hid hkv
  have HK := Lib.hid hk
  have HM := Lib.hid hm
  clear hk hm hp hkv h1 h2
  go_enter Tryd.func36, Tryd.ntmps36
  go_upto_region 0 with fail
  have HW0 : Hid (MetRun (pvM (.map (some bm)) (.int .i64 (r : Int)) (.int .i64 (pc : Int)) (keyV p) (cntV tr p) (cntV (tr ++ [p]) p)) bm tr p W (fun _ => none) { W with drawn := W.drawn + 1 }) := Lib.hid (MetRun.start HM.out)
  have HNo : Hid (∀ j ∈ slots3, (pvM (.map (some bm)) (.int .i64 (r : Int)) (.int .i64 (pc : Int)) (keyV p) (cntV tr p) (cntV (tr ++ [p]) p)) j = none) := Lib.hid (pvM_no _ _ _ _ _ _)
  have HV : Hid ((pvM (.map (some bm)) (.int .i64 (r : Int)) (.int .i64 (pc : Int)) (keyV p) (cntV tr p) (cntV (tr ++ [p]) p)) 0 = some (.map (some bm)) ∧ (pvM (.map (some bm)) (.int .i64 (r : Int)) (.int .i64 (pc : Int)) (keyV p) (cntV tr p) (cntV (tr ++ [p]) p)) 1 = some (.int .i64 (r : Int)) ∧ (pvM (.map (some bm)) (.int .i64 (r : Int)) (.int .i64 (pc : Int)) (keyV p) (cntV tr p) (cntV (tr ++ [p]) p)) 2 = some (.int .i64 (pc : Int)) ∧ (pvM (.map (some bm)) (.int .i64 (r : Int)) (.int .i64 (pc : Int)) (keyV p) (cntV tr p) (cntV (tr ++ [p]) p)) 3 = some (keyV p) ∧ (pvM (.map (some bm)) (.int .i64 (r : Int)) (.int .i64 (pc : Int)) (keyV p) (cntV tr p) (cntV (tr ++ [p]) p)) 4 = some (cntV tr p) ∧ (pvM (.map (some bm)) (.int .i64 (r : Int)) (.int .i64 (pc : Int)) (keyV p) (cntV tr p) (cntV (tr ++ [p]) p)) 5 = some (cntV (tr ++ [p]) p)) := Lib.hid ⟨rfl, rfl, rfl, rfl, rfl, rfl⟩
  generalize pvM (.map (some bm)) (.int .i64 (r : Int)) (.int .i64 (pc : Int)) (keyV p) (cntV tr p) (cntV (tr ++ [p]) p) = pv at *
  refine wp_region_keeps (MetRun pv bm tr p W) (by kernel_rfl) (by kernel_rfl) HW0.out ?_ ?_
  · refine ⟨⟨rfl, ?_⟩, ⟨rfl, ?_⟩, ⟨rfl, ?_⟩, ⟨rfl, ?_⟩, ⟨rfl, ?_⟩, ⟨rfl, ?_⟩, ⟨rfl, ?_⟩, ⟨rfl, ?_⟩, ⟨rfl, ?_⟩, trivial⟩
    all_goals
      intro σ vs w' hvs hcl hC hk hdep
      simp only [putO, Act.put, List.setIfInBounds_toArray, List.set_cons_succ, List.set_cons_zero, Nat.reduceAdd]
      have HC := Lib.hid hC
      have HD := Lib.hid hdep
      have HL := Lib.hid hcl
      have HS := Lib.hid hk
      clear hC hdep hcl hk hvs
    · have c0 : w'.cell? ⟨g9, 0, none⟩ = some (.map (some bm)) := (World.cell?_of_block (a := ⟨g9, 0, none⟩) (HC.out.heap g9 hne)).trans (HK.out.cell 0)
      go_simp
      exact HC.out.put HV.out.1 HNo.out
    · go_simp
      exact HC.out.put HV.out.2.1 HNo.out
    · go_simp
      exact HC.out.put HV.out.2.2.1 HNo.out
    · rw [HC.out.val (HD.out ⟨1, .data⟩ (by simp) rfl) HV.out.2.1, HC.out.val (HD.out ⟨2, .data⟩ (by simp) rfl) HV.out.2.2.1]
      go_simp
      rw [HKv.out]
      exact HC.out.put HV.out.2.2.2.1 HNo.out
    · have n5 := not_done HL.out HS.out (j := 5) rfl rfl
      have n8 := not_done HL.out n5 (j := 8) rfl rfl
      rw [HC.out.val (HD.out ⟨0, .data⟩ (by simp) rfl) HV.out.1, HC.out.val (HD.out ⟨3, .data⟩ (by simp) rfl) HV.out.2.2.2.1]
      have hl := met_look (HC.out.map n8) hp1 hp2
      clear n5 n8
      go_simp
      exact HC.out.put HV.out.2.2.2.2.1 HNo.out
    · rw [HC.out.val (HD.out ⟨4, .data⟩ (by simp) rfl) HV.out.2.2.2.2.1]
      have h5 := HV.out.2.2.2.2.2
      have hcn := cnt_next tr p
      unfold cntV at h5 ⊢
      obtain ⟨c, hc⟩ : ∃ c, IntKind.i64.wrap (tr.count p : Int) = c := ⟨_, rfl⟩
      obtain ⟨c1, hc1⟩ : ∃ c, IntKind.i64.wrap ((tr ++ [p]).count p : Int) = c := ⟨_, rfl⟩
      rw [hc1] at h5
      rw [hc, hc1] at hcn
      rw [hc]
      have HV5 := Lib.hid h5
      clear h5 hc hc1
      go_simp
      exact HC.out.put HV5.out HNo.out
    · have n7 := not_done HL.out HS.out (j := 7) rfl rfl
      have n8 := not_done HL.out n7 (j := 8) rfl rfl
      obtain ⟨st, o, hr, hm⟩ := met_entry (HC.out.ahead HS.out) hp1 hp2
      have HM6 := Lib.hid hm
      rw [HC.out.val (HD.out ⟨0, .data⟩ (by simp) rfl) HV.out.1, HC.out.val (HD.out ⟨3, .data⟩ (by simp) rfl) HV.out.2.2.2.1]
      clear hm
      go_simp
      exact HC.out.entry HNo.out HS.out n7 n8 HM6.out
    · obtain ⟨st, e, h⟩ := HC.out.isEntry HNo.out (HD.out ⟨6, .data⟩ (by simp) rfl)
      have HH := Lib.hid h
      rw [show vs (⟨6, .data⟩ : Edge).on = vs 6 from rfl] at e
      rw [e]
      clear h e
      go_simp
      exact HH.out
    · obtain ⟨st, e, hm⟩ := HC.out.isStamp HS.out (HD.out ⟨6, .chain⟩ (by simp) rfl) (HD.out ⟨7, .data⟩ (by simp) rfl)
      obtain ⟨o, hr, hm2⟩ := met_store hm hp1 hp2
      have HH := Lib.hid (HC.out.store HNo.out HS.out (HD.out ⟨6, .chain⟩ (by simp) rfl) hm2)
      rw [show vs (⟨7, .data⟩ : Edge).on = vs 7 from rfl] at e
      rw [HC.out.val (HD.out ⟨0, .data⟩ (by simp) rfl) HV.out.1, HC.out.val (HD.out ⟨5, .data⟩ (by simp) rfl) HV.out.2.2.2.2.2, e]
      clear hm hm2 e
      go_simp
      exact HH.out
  intro σ vs w4 hC hall
  simp only [putO, Act.put, List.setIfInBounds_toArray, List.set_cons_succ, List.set_cons_zero, Nat.reduceAdd]
  have HE := Lib.hid (hC.done (hall 6 (by decide)) (hall 8 (by decide)))
  clear hC hall HV HNo HW0
  go_end0
  exact ⟨rfl, HE.out⟩
end Go.Proofs.YtkiaffaieniebaaDoor
namespace Go.Proofs.YtkiaffaieniebaaDoor
open Go.RowKit

theorem met1_does (w : World) (b0 g9 bm : Nat) (hb : b0 ≤ bm) : MetDoes 36 #[.pointer (some ⟨g9, 0, none⟩)] w b0 (fun W tr => Blk W g9 69 #[.map (some bm)] ∧ MetMap W bm tr) := by
  refine ⟨fun a W => MuLone.run_callFunc_enter Tryd.func36 (by kernel_rfl) rfl a W, fun r pc W tr h1 h2 _ hJ => ?_⟩
  obtain ⟨hk, hm⟩ := hJ
  refine (met1_any r pc bm g9 tr W h1 h2 hk hm).mono ?_
  rintro e w' ⟨rfl, hm', hh, hz, ho, ht, hout⟩
  have hmap : ∀ cs t f, W.heap[bm]? ≠ some (.cells cs t f) := fun cs t f h => by
    obtain ⟨es, clock, hb, _⟩ := hm
    rw [hb] at h
    cases h
  have hne : g9 ≠ bm := fun e => hmap _ _ _ (e ▸ hk)
  refine ⟨rfl, ⟨by omega, fun g cs t f hg => ?_⟩, ⟨ho, ht, hout, by omega, fun k hk => hh k (by omega)⟩, (hh g9 hne).trans hk, hm'⟩
  have : g ≠ bm := fun e => hmap cs t f (e ▸ hg)
  exact (hh g this).trans hg
/-- How often each instruction of a code was met. -/
def metLine (tr : List (Nat × Nat)) (r : Nat) (l : List Mac) : List Int := (List.range l.length).map fun i => ((tr.count (r, i) : Nat) : Int)
def metTo (css : List (List Mac)) (tr : List (Nat × Nat)) (k : Nat) : List (List Int) := (List.range k).map fun r => metLine tr r (css.getD r [])
def metRows (css : List (List Mac)) (tr : List (Nat × Nat)) : List (List Int) := metTo css tr css.length
theorem metTo_succ (css : List (List Mac)) (tr : List (Nat × Nat)) (k : Nat) : metTo css tr (k + 1) = metTo css tr k ++ [metLine tr k (css.getD k [])] := by
  unfold metTo
  rw [List.range_succ, List.map_append]
  rfl
theorem metTo_len (css : List (List Mac)) (tr : List (Nat × Nat)) (k : Nat) : (metTo css tr k).length = k := by unfold metTo; simp
theorem metS_len (codes : List (List Mac)) (s : Mch) : ∀ k, (metS codes s k).length ≤ k
  | 0 => Nat.le_refl _
  | k + 1 => by
    have := metS_len codes s k
    show (if _ then _ else _ : List (Nat × Nat)).length ≤ _
    split
    · omega
    · rw [List.length_append]; simp; omega
theorem runT_len (gs : List Glob) (rs : List Rout) (inp : List Int) (fuel : Int) : (runT gs rs inp fuel).length ≤ 900000 := by
  unfold runT
  split
  · simp
  · rename_i h
    have h2 : (runF gs rs inp fuel).1 = 0 := by simpa using h
    have := metS_len (imgCodes rs) (beginS gs inp) fuel.toNat
    have : fuel ≤ 900000 := by
      unfold runF at h2
      split at h2
      · contradiction
      split at h2
      · cases h2
      · omega
    omega
/-- What Met comes to. -/
def MetPost (w : World) (xss : List (List Int)) (s : Mch) (f : Int × Int) (e : Ending) (w' : World) : Prop :=
  ∃ v ov, e = .returned (.tuple #[v, .agg #[.int .i64 s.state, .int .i64 s.value, ov, .int .i64 (s.steps : Int)], .agg #[.int .i64 f.1, .int .i64 f.2]]) ∧ RowsOwn w' w.heap.size v xss ∧ w'.ownsRow w.heap.size 3 1 ov s.out.length (intV s.out) ∧ Below w.heap.size w w'
theorem RowsOwn.more {w : World} {base base' : Nat} {v : Value} {xss : List (List Int)} (h : RowsOwn w base v xss) (hb : base' ≤ base) : RowsOwn w base' v xss := by
  obtain ⟨rs, h1, h2, h3⟩ := h
  exact ⟨rs, h1, row_more h2 hb, fun i r xs hr hx => row_more (h3 i r xs hr hx) hb⟩
set_option maxRecDepth 100000 in
set_option maxHeartbeats 2000000 in
theorem Met_any (gv rv iv : Value) (gs : List Glob) (rs : List Rout) (inp : List Int) (fuel : Int) (w : World) (hg : GlobsAt w w.heap.size gv gs) (hr : RoutsAt w w.heap.size rv rs) (hin : IntsAt w w.heap.size iv inp)
    (hgo : GOk gs) (hro : ROk rs) (ht : Tab w) : Calls Tryd.prog 18 #[.agg #[gv, rv], iv, .int .i64 fuel] w (MetPost w (metRows (runL gs rs inp fuel) (runT gs rs inp fuel)) (runO gs rs inp fuel) (runF gs rs inp fuel)) := by
  have htl := runT_len gs rs inp fuel
  have h40 : (runL gs rs inp fuel).length ≤ 40 := by
    unfold runL
    split
    · simp
    · rename_i h
      have h2 : (runF gs rs inp fuel).1 = 0 := by simpa using h
      have hm : (machF gs rs).1 = 0 := by
        unfold runF at h2
        split at h2
        · contradiction
        · rename_i h3; simpa using h3
      rw [imgCodes_len]
      exact (machF_zero hm).2.2.1
  have hll : ∀ l ∈ runL gs rs inp fuel, l.length ≤ 5000 := fun l hl => by
    unfold runL at hl
    split at hl
    · cases hl
    · rename_i h
      have h2 : (runF gs rs inp fuel).1 = 0 := by simpa using h
      have hm : (machF gs rs).1 = 0 := by
        unfold runF at h2
        split at h2
        · contradiction
        · rename_i h3; simpa using h3
      obtain ⟨j, hj⟩ := List.mem_iff_getElem?.1 hl
      exact (goodC_of hro hm _ _ hj).many
  have hA : Below w.heap.size w (((w.alloc (.cells #[gv, rv] 36)).alloc (.cells #[.int .i64 0, .int .i64 0, .slice none 0 0, .int .i64 0] 28)).alloc (.cells #[.int .i64 0, .int .i64 0] 30)) := (((Below.refl _ _).alloc (Nat.le_refl _) _).alloc (by simp) _).alloc (by simp; omega) _
  have HN : Hid (RunNow w w.heap.size w.heap.size gv rv (fun _ _ => True) [] (((w.alloc (.cells #[gv, rv] 36)).alloc (.cells #[.int .i64 0, .int .i64 0, .slice none 0 0, .int .i64 0] 28)).alloc (.cells #[.int .i64 0, .int .i64 0] 30))) := Lib.hid
    ⟨((Blk.new w _ _).alloc _).alloc _, Blk.alloc (by have := Blk.new (w.alloc (.cells #[gv, rv] 36)) 28 #[.int .i64 0, .int .i64 0, .slice none 0 0, .int .i64 0]; simpa using this) _,
      by have := Blk.new ((w.alloc (.cells #[gv, rv] 36)).alloc (.cells #[.int .i64 0, .int .i64 0, .slice none 0 0, .int .i64 0] 28)) 30 #[.int .i64 0, .int .i64 0]; simpa using this, hA, trivial, fun g t cs hg hc => hc.below hA hg⟩
  have HZ : Hid (w.heap.size + 3 ≤ (((w.alloc (.cells #[gv, rv] 36)).alloc (.cells #[.int .i64 0, .int .i64 0, .slice none 0 0, .int .i64 0] 28)).alloc (.cells #[.int .i64 0, .int .i64 0] 30)).heap.size) := Lib.hid (by simp)
  have HZ3 : Hid ((((w.alloc (.cells #[gv, rv] 36)).alloc (.cells #[.int .i64 0, .int .i64 0, .slice none 0 0, .int .i64 0] 28)).alloc (.cells #[.int .i64 0, .int .i64 0] 30)).heap.size = w.heap.size + 1 + 1 + 1) := Lib.hid (by simp)
  have HF0 : Hid ((runF gs rs inp fuel).1 = 0 → runF gs rs inp fuel = (0, 0)) := Lib.hid fun h => by
    unfold runF at h ⊢
    split at h
    · contradiction
    split at h
    · cases h
    split at h
    · cases h
    · rename_i h1 h2 h3; rw [if_neg h1, if_neg h2, if_neg h3]
  have HNil : Hid ((runF gs rs inp fuel).1 ≠ 0 → runL gs rs inp fuel = []) := Lib.hid fun h => by unfold runL; rw [if_pos h]
  have HG := Lib.hid hg
  have HR := Lib.hid hr
  have HI := Lib.hid hin
  have HT := Lib.hid ht
  have HRun : Hid (∀ (F : FuncId) (cap : Array Value) (W : World) (J : World → List (Nat × Nat) → Prop), Below w.heap.size w W → (∀ W1 W2 tr, J W1 tr → Below W.heap.size W1 W2 → J W2 tr) → J W [] → MetDoes F cap W w.heap.size J →
    Calls Tryd.prog 33 #[.agg #[gv, rv], iv, .int .i64 fuel, .func (.func F) #[] cap] W (RunPost W w.heap.size J (runO gs rs inp fuel) (runF gs rs inp fuel) (runL gs rs inp fuel) (runT gs rs inp fuel))) := Lib.hid fun F cap W J hb h1 h2 h3 =>
    run_any F cap gv rv iv gs rs inp fuel W w.heap.size J (hg.below hb (Nat.le_refl _)) (hr.below hb (Nat.le_refl _)) (hin.below hb (Nat.le_refl _)) hgo hro (ht.own hb) hb.size h1 h2 h3
  have hmm := @run_makeMap Tryd.prog
  clear hA hg hr hin hgo hro ht
  generalize runF gs rs inp fuel = fR at *
  generalize runO gs rs inp fuel = sR at *
  generalize runL gs rs inp fuel = css at *
  generalize runT gs rs inp fuel = tr at *
  obtain ⟨f1, f2⟩ := fR
  obtain ⟨PE, hPE⟩ : ∃ PE, MetPost w (metRows css tr) sR (f1, f2) = PE := ⟨_, rfl⟩
  rw [hPE]
  have HPE := Lib.hid hPE
  have HLen := Lib.hid (And.intro htl (And.intro hll h40))
  clear hPE htl hll h40
  go_enter Tryd.func18, Tryd.ntmps18
  go_wp2_with fail
  generalize ((w.alloc (.cells #[gv, rv] 36)).alloc (.cells #[.int .i64 0, .int .i64 0, .slice none 0 0, .int .i64 0] 28)).alloc (.cells #[.int .i64 0, .int .i64 0] 30) = W3 at *
  obtain ⟨bm, hbm⟩ : ∃ b, w.heap.size + 1 + 1 + 1 = b := ⟨_, rfl⟩
  have hbm2 : W3.heap.size = bm := HZ3.out.trans hbm
  rw [hbm]
  have HMap : Hid (MetMap ((W3.alloc (.map #[] 0)).alloc (.cells #[.map (some bm)] 69)) bm []) := Lib.hid (by
    have := MetMap.made W3
    rw [hbm2] at this
    exact this.stay (Below.heap_alloc _ _ _ this.lt))
  have HK9 : Hid (Blk ((W3.alloc (.map #[] 0)).alloc (.cells #[.map (some bm)] 69)) (bm + 1) 69 #[.map (some bm)]) := Lib.hid (by
    have := Blk.new (W3.alloc (.map #[] 0)) 69 #[.map (some bm)]
    rwa [show (W3.alloc (.map #[] 0)).heap.size = bm + 1 by simp [hbm2]] at this)
  have hA5 : Below W3.heap.size W3 ((W3.alloc (.map #[] 0)).alloc (.cells #[.map (some bm)] 69)) := ((Below.refl _ _).alloc (Nat.le_refl _) _).alloc (by simp) _
  have HA5 := Lib.hid hA5
  have hz5 : bm + 2 ≤ ((W3.alloc (.map #[] 0)).alloc (.cells #[.map (some bm)] 69)).heap.size := by simp [hbm2]
  generalize (W3.alloc (.map #[] 0)).alloc (.cells #[.map (some bm)] 69) = W5 at *
  refine (HRun.out 36 #[.pointer (some ⟨bm + 1, 0, none⟩)] W5 (fun W tr => Blk W (bm + 1) 69 #[.map (some bm)] ∧ MetMap W bm tr) (HN.out.below.trans (hA5.mono (by omega))) (fun W1 W2 tr hJ hb => ⟨hJ.1.below hb (by omega), hJ.2.stay (hb.block bm (by omega))⟩) ⟨HK9.out, HMap.out⟩ (met1_does W5 w.heap.size (bm + 1) bm (by omega))).mono ?_
  rintro e w1 ⟨v, ov, rfl, hcodes, hov, hb1, ⟨hk9, hmet⟩, hkeep⟩
  obtain ⟨Ao, co, rfl⟩ := row_form hov
  obtain ⟨Av, cv, hv, _⟩ := id hcodes
  subst hv
  obtain ⟨n, hn⟩ : ∃ n, sR.out.length = n := ⟨_, rfl⟩
  have Hn := Lib.hid hn
  obtain ⟨nc, hnc⟩ : ∃ n, css.length = n := ⟨_, rfl⟩
  have Hnc := Lib.hid hnc
  rw [hn] at hov
  rw [hnc] at hcodes
  have hA2 : Below w1.heap.size w1 ((w1.alloc (.cells #[.int .i64 sR.state, .int .i64 sR.value, .slice Ao n co, .int .i64 (sR.steps : Int)] 28)).alloc (.cells #[.int .i64 f1, .int .i64 f2] 30)) := ((Below.refl _ _).alloc (Nat.le_refl _) _).alloc (by simp) _
  have hz1 : W5.heap.size ≤ w1.heap.size := hb1.size
  have hN5 : ∀ {g t cs}, Blk W3 g t cs → Blk W5 g t cs := fun hc => hc.below hA5 hc.lt
  have HN2 : Hid (RunNow w w.heap.size w.heap.size gv rv (fun _ _ => True) [] ((w1.alloc (.cells #[.int .i64 sR.state, .int .i64 sR.value, .slice Ao n co, .int .i64 (sR.steps : Int)] 28)).alloc (.cells #[.int .i64 f1, .int .i64 f2] 30))) := Lib.hid
    ⟨(hkeep _ _ _ (hN5 HN.out.img)).below hA2 (by omega), (hkeep _ _ _ (hN5 HN.out.res)).below hA2 (by omega), (hkeep _ _ _ (hN5 HN.out.flt)).below hA2 (by omega), (HN.out.below.trans (hA5.mono (by omega))).trans (hb1.trans (hA2.mono (by omega))), trivial, fun g t cs hg hc => (((hc.below HN.out.below hg).below hA5 (by omega)).below hb1 hg).below hA2 (by omega)⟩
  have HK11 := Lib.hid ((Blk.new w1 28 #[.int .i64 sR.state, .int .i64 sR.value, .slice Ao n co, .int .i64 (sR.steps : Int)]).alloc (.cells #[.int .i64 f1, .int .i64 f2] 30))
  have HK12 : Hid (Blk ((w1.alloc (.cells #[.int .i64 sR.state, .int .i64 sR.value, .slice Ao n co, .int .i64 (sR.steps : Int)] 28)).alloc (.cells #[.int .i64 f1, .int .i64 f2] 30)) (w1.heap.size + 1) 30 #[.int .i64 f1, .int .i64 f2]) := Lib.hid (by
    have := Blk.new (w1.alloc (.cells #[.int .i64 sR.state, .int .i64 sR.value, .slice Ao n co, .int .i64 (sR.steps : Int)] 28)) 30 #[.int .i64 f1, .int .i64 f2]
    simpa using this)
  have HO2 := Lib.hid (row_lt hov hA2)
  have HCo2 := Lib.hid ((hcodes.below hA2 (Nat.le_refl _)).more hA2.size)
  have HKm := Lib.hid (hk9.below hA2 hk9.lt)
  have HMm := Lib.hid (hmet.stay (hA2.block bm hmet.lt))
  have hzw : w.heap.size + 1 + 1 + 1 < w1.heap.size := by omega
  have hzW5 : w.heap.size ≤ W5.heap.size := by omega
  clear hkeep hov hb1 hA2 hn hnc HN hcodes hk9 hmet hA5 HA5 HMap HK9 HRun hmm hbm2 hz5 hz1
  go_upto_region 3 with fail
  rw [Hn.out, Hnc.out]
  have hz2 : w1.heap.size < ((w1.alloc (.cells #[.int .i64 sR.state, .int .i64 sR.value, .slice Ao n co, .int .i64 (sR.steps : Int)] 28)).alloc (.cells #[.int .i64 f1, .int .i64 f2] 30)).heap.size := HK11.out.lt
  generalize (w1.alloc (.cells #[.int .i64 sR.state, .int .i64 sR.value, .slice Ao n co, .int .i64 (sR.steps : Int)] 28)).alloc (.cells #[.int .i64 f1, .int .i64 f2] 30) = W2 at *
  generalize w1.heap.size = g1 at *
  have a0 := HK11.out.cell 0
  have a1 := HK11.out.cell 1
  have a2 := HK11.out.cell 2
  have a3 := HK11.out.cell 3
  have b0 := HK12.out.cell 0
  have b1 := HK12.out.cell 1
  have r0 := HN2.out.res.cell 0
  have r1 := HN2.out.res.cell 1
  have r2 := HN2.out.res.cell 2
  have r3 := HN2.out.res.cell 3
  have k0 := HN2.out.flt.cell 0
  have k1 := HN2.out.flt.cell 1
  have rf0 := HN2.out.res.frozen 0
  have rf1 := HN2.out.res.frozen 1
  have rf2 := HN2.out.res.frozen 2
  have rf3 := HN2.out.res.frozen 3
  have kf0 := HN2.out.flt.frozen 0
  have kf1 := HN2.out.flt.frozen 1
  by_cases hf1 : f1 = 0
  · have hf2 := HF0.out hf1
    cases hf2
    clear hf1
    go_wp2_with fail
    go_loopw [13, 35] (fun v i wr => ∃ k : Nat, k ≤ nc ∧ i = .int .i64 k ∧ Hid (Below W2.heap.size W2 wr) ∧ Hid (RowsOwn wr W2.heap.size v (metTo css tr k))) (fun _ i _ => nc - (intOf i).toNat)
    case atStart => exact ⟨0, Nat.zero_le _, rfl, Lib.hid (Below.refl _ _), Lib.hid (RowsOwn.nil _ _)⟩
    case round =>
      obtain ⟨k, hk, rfl, HB, HO⟩ := hrel
      by_cases hlt : k < nc
      · obtain ⟨A', c', e', _, _, h3⟩ := HCo2.out
        rw [Hnc.out] at e'
        obtain rfl : Av = A' := (Value.slice.inj e').1
        obtain ⟨bc, oc, hAv, hbc, hcell⟩ := h3 (by rw [Hnc.out]; omega)
        subst hAv
        obtain ⟨l, hl⟩ : ∃ l, css[k]? = some l := ⟨css[k]'(by rw [Hnc.out]; exact hlt), List.getElem?_eq_getElem _⟩
        obtain ⟨lvv, c0, Al, cl, rfl, _⟩ := hcell k l hl
        have d0 := (bcell HB.out hbc).trans c0
        have hl5 := HLen.out.2.1 l (List.mem_of_getElem? hl)
        have Hl := Lib.hid hl
        have hk0 : (0 : Int) ≤ (k : Int) := Int.natCast_nonneg _
        have hk1 : (k : Int) < (nc : Int) := by omega
        obtain ⟨m, hm⟩ : ∃ m, l.length = m := ⟨_, rfl⟩
        have Hm := Lib.hid hm
        rw [hm] at d0 hl5
        have hmk := fun W : World => run_make_row' (P := Tryd.prog) 26 3 (.int .i64 0) 8 Tryd.underlying26 infoInt rfl .i64 .i64 m (by omega) (by omega) W
        clear h3 hcell c0 e' hl hm
        go_wp2_with fail
        have HRow0 : Hid ((wr.alloc (.cells (madeCells #[.int .i64 0] m) 3)).rowIs wr.heap.size 3 m (fun j => if j < 0 then .int .i64 ((tr.count (k, j) : Nat) : Int) else .int .i64 0)) := Lib.hid (by simpa using World.rowIs_made wr (.int .i64 0) m 3)
        have hA6 : Below wr.heap.size wr (wr.alloc (.cells (madeCells #[.int .i64 0] m) 3)) := (Below.refl _ _).alloc (Nat.le_refl _) _
        have HO6 := Lib.hid (HO.out.below hA6 rfl)
        have HB6 := Lib.hid (HB.out.trans (hA6.mono HB.out.size))
        have hz6 : W2.heap.size ≤ wr.heap.size := HB.out.size
        have HWr := Lib.hid hA6
        obtain ⟨rg, hrg⟩ : ∃ g, wr.heap.size = g := ⟨_, rfl⟩
        have HRg := Lib.hid hrg
        rw [hrg] at HRow0 hz6 HWr ⊢
        clear hmk hA6 d0 hrg
        have hnc40 : nc ≤ 40 := by rw [← Hnc.out]; exact HLen.out.2.2
        generalize wr.alloc (.cells (madeCells #[.int .i64 0] m) 3) = W6 at *
        obtain ⟨wo, hwo⟩ : ∃ wo : World, wo = wr := ⟨_, rfl⟩
        subst hwo
        go_loopw [45] (fun i wx => ∃ q : Nat, q ≤ m ∧ i = .int .i64 q ∧ Hid (Below rg wo wx) ∧ Hid (wx.rowIs rg 3 m (fun j => if j < q then .int .i64 ((tr.count (k, j) : Nat) : Int) else .int .i64 0))) (fun i _ => m - (intOf i).toNat)
        case atStart => exact ⟨0, Nat.zero_le _, rfl, HWr, HRow0⟩
        case round =>
          clear HRow0 HB6 HO6 HWr
          obtain ⟨q, hq, rfl, HBx, HRx⟩ := hrel
          have HW := Lib.hid (HB.out.trans (HBx.out.mono hz6))
          by_cases hqm : q < m
          · have hmap := HMm.out.stay (HW.out.block bm HMm.out.lt)
            have c9 := (HKm.out.below HW.out HKm.out.lt).cell 0
            have hl : (Instr.lookup 69 (.map (some bm)) (.agg #[.int .i64 (k : Int), .int .i64 (q : Int)]) false).run Tryd.prog wr = .ok (.int .i64 ((tr.count (k, q) : Nat) : Int)) wr := by
              have h := met_look (p := (k, q)) hmap (by show k < 5000; omega) (by show q < 5000; omega)
              have hw : IntKind.i64.wrap ((tr.count (k, q) : Nat) : Int) = ((tr.count (k, q) : Nat) : Int) := by
                have := HLen.out.1
                have := List.count_le_length (a := (k, q)) (l := tr)
                rw [IntKind.wrap_i64]
                omega
              unfold cntV at h
              rw [hw] at h
              exact h
            obtain ⟨cc, hcc⟩ : ∃ c : Int, ((tr.count (k, q) : Nat) : Int) = c := ⟨_, rfl⟩
            rw [hcc] at hl
            have Hcc := Lib.hid hcc
            have dq := HRx.out.cell hqm
            have fq := HRx.out.frozen q
            rw [if_neg (Nat.lt_irrefl q)] at dq
            have hq0 : (0 : Int) ≤ (q : Int) := Int.natCast_nonneg _
            have hq1 : (q : Int) < (m : Int) := by omega
            clear hmap hcc
            go_wp2_with fail
            go_round
            case rel =>
              refine ⟨q + 1, by omega, by go_num, Lib.hid (HBx.out.setCell (p := ⟨rg, q, none⟩) (Nat.le_refl _) _), Lib.hid ((HRx.out.set q (.int .i64 cc)).congr fun j hj => ?_)⟩
              by_cases e : j = q
              · subst e
                simp only [if_true]
                rw [if_pos (Nat.lt_succ_self j), Hcc.out]
              · simp only [if_neg e]
                by_cases hjq : j < q
                · rw [if_pos hjq, if_pos (by omega)]
                · rw [if_neg hjq, if_neg (by omega)]
            case measure => simp [intOf]; omega
          · obtain rfl : m = q := by omega
            have hown : OwnInts wr W2.heap.size (.slice (some ⟨rg, 0, none⟩) m m) (metLine tr k l) := by
              obtain ⟨cs, hb, hn, hc⟩ := HRx.out
              have hlen : (metLine tr k l).length = m := by unfold metLine; simp [Hm.out]
              have hlist : (metLine tr k l).map (Value.int .i64) = cs.toList := by
                apply List.ext_getElem?
                intro i
                rcases Nat.lt_or_ge i m with h | h
                · have h1 := hc i h
                  simp only [if_pos h] at h1
                  rw [← Array.getElem?_toList] at h1
                  rw [h1]
                  unfold metLine
                  rw [List.getElem?_map, List.getElem?_map, List.getElem?_range (by rw [Hm.out]; exact h)]
                  rfl
                · rw [List.getElem?_eq_none (by rw [List.length_map, hlen]; exact h), List.getElem?_eq_none (by simp [hn]; exact h)]
              unfold OwnInts
              rw [hlen, hlist]
              refine ⟨by simp [hn], .inr ⟨rg, m, cs, rfl, hz6, hb, Nat.le_refl _, by unfold maxLen; omega, by omega, ?_⟩⟩
              rw [List.take_of_length_le (by simp [hn])]
            have HOw := Lib.hid hown
            obtain ⟨rs', h1, h2, h3⟩ := HO.out.below HBx.out HRg.out.symm
            have HR3 := Lib.hid (And.intro h1 h3)
            have HR2 := Lib.hid h2
            have hz3 : W2.heap.size ≤ wr.heap.size := HW.out.size
            have hrl : rs'.length ≤ 40 := by rw [h1, metTo_len]; omega
            clear hown h1 h2 h3
            go_wp2_with (at_builtin; refine app_one rfl _ _ 41 26 rfl (.slice none 0 0) 1 24 Tryd.underlying41 infoRow rfl (by decide) (by decide) W2.heap.size u13 _ _ (by rfl) HR2.out _ [.slice (some ⟨rg, 0, none⟩) m m] (by rfl) rfl (fun x hx => by simp at hx; subst hx; rfl) rfl (by omega) hz3 ?_; intro v4 w4 HA4)
            go_round
            case rel =>
              refine ⟨k + 1, by omega, by go_num, Lib.hid (HW.out.trans HA4.out.below), Lib.hid ?_⟩
              rw [metTo_succ, List.getD_eq_getElem?_getD, Hl.out]
              exact RowsOwn.snoc HR3.out.1 HR2.out HR3.out.2 HOw.out HA4.out
            case measure => simp [intOf]; omega
      · obtain rfl : nc = k := by omega
        have HNr := Lib.hid (HN2.out.next HB.out (by omega) (by omega) (fun _ _ _ _ _ => trivial))
        have hg1 : g1 < W2.heap.size := hz2
        have HKr := Lib.hid (HK11.out.below HB.out HK11.out.lt)
        have hzB : w.heap.size + 1 + 1 < W2.heap.size := by omega
        clear a0 a1 a2 a3 b0 b1 r0 r1 r2 r3 k0 k1 rf0 rf1 rf2 rf3 kf0 kf1
        have a0 := HKr.out.cell 0
        have a1 := HKr.out.cell 1
        have a2 := HKr.out.cell 2
        have a3 := HKr.out.cell 3
        have r0 := HNr.out.res.cell 0
        have r1 := HNr.out.res.cell 1
        have r2 := HNr.out.res.cell 2
        have r3 := HNr.out.res.cell 3
        have k0 := HNr.out.flt.cell 0
        have k1 := HNr.out.flt.cell 1
        have rf0 := HNr.out.res.frozen 0
        have rf1 := HNr.out.res.frozen 1
        have rf2 := HNr.out.res.frozen 2
        have rf3 := HNr.out.res.frozen 3
        have kf0 := HNr.out.flt.frozen 0
        have kf1 := HNr.out.flt.frozen 1
        go_upto_region 17 with fail
        go_region
        all_goals
          go_wp2_with fail
          have hend := HNr.out.end_ (.int .i64 sR.state) (.int .i64 sR.value) (.slice Ao n co) (.int .i64 (sR.steps : Int)) (.int .i64 0) (.int .i64 0)
          have hrow := HNr.out.row (row_lt HO2.out HB.out) (by decide) (by decide) (.int .i64 sR.state) (.int .i64 sR.value) (.slice Ao n co) (.int .i64 (sR.steps : Int)) (.int .i64 0) (.int .i64 0)
          have hrows := (((((HO.out.set (b := w.heap.size + 1) (o := 0) (by omega) (.int .i64 sR.state)).set (b := w.heap.size + 1) (o := 1) (by omega) (.int .i64 sR.value)).set (b := w.heap.size + 1) (o := 2) (by omega) (.slice Ao n co)).set (b := w.heap.size + 1) (o := 3) (by omega) (.int .i64 (sR.steps : Int))).set (b := w.heap.size + 1 + 1) (o := 0) (by omega) (.int .i64 0)).set (b := w.heap.size + 1 + 1) (o := 1) (by omega) (.int .i64 0)
          refine end_tmp_cells rfl rfl rfl hend.1.drew hend.2.1.drew Tryd.underlying28 rfl Tryd.underlying30 rfl (by kernel_rfl) (by kernel_rfl) rfl ?_
          rw [← HPE.out]
          generalize (((((wr.setCell ⟨w.heap.size + 1, 0, none⟩ (.int .i64 sR.state)).setCell ⟨w.heap.size + 1, 1, none⟩ (.int .i64 sR.value)).setCell ⟨w.heap.size + 1, 2, none⟩ (.slice Ao n co)).setCell ⟨w.heap.size + 1, 3, none⟩ (.int .i64 (sR.steps : Int))).setCell ⟨w.heap.size + 1 + 1, 0, none⟩ (.int .i64 0)).setCell ⟨w.heap.size + 1 + 1, 1, none⟩ (.int .i64 0) = W6 at *
          exact ⟨_, _, rfl, by unfold metRows; rw [Hnc.out]; exact RowsOwn.more (base := W2.heap.size) hrows (by omega), row_more (World.ownsRow.drew (by rw [Hn.out]; exact hrow)) (by omega), below_drew1 (HNr.out.below.trans (hend.2.2.mono (by omega)))⟩
  · have hfb : (f1 == 0) = false := by simpa using hf1
    have hcs := HNil.out hf1
    have Hcs := Lib.hid hcs
    clear hf1 hcs
    go_wp2_with fail
    go_region
    all_goals
      go_wp2_with fail
      have hend := HN2.out.end_ (.int .i64 sR.state) (.int .i64 sR.value) (.slice Ao n co) (.int .i64 (sR.steps : Int)) (.int .i64 f1) (.int .i64 f2)
      have hrow := HN2.out.row HO2.out (by decide) (by decide) (.int .i64 sR.state) (.int .i64 sR.value) (.slice Ao n co) (.int .i64 (sR.steps : Int)) (.int .i64 f1) (.int .i64 f2)
      refine end_tmp_cells rfl rfl rfl hend.1.drew hend.2.1.drew Tryd.underlying28 rfl Tryd.underlying30 rfl (by kernel_rfl) (by kernel_rfl) rfl ?_
      rw [← HPE.out, Hcs.out]
      generalize (((((W2.setCell ⟨w.heap.size + 1, 0, none⟩ (.int .i64 sR.state)).setCell ⟨w.heap.size + 1, 1, none⟩ (.int .i64 sR.value)).setCell ⟨w.heap.size + 1, 2, none⟩ (.slice Ao n co)).setCell ⟨w.heap.size + 1, 3, none⟩ (.int .i64 (sR.steps : Int))).setCell ⟨w.heap.size + 1 + 1, 0, none⟩ (.int .i64 f1)).setCell ⟨w.heap.size + 1 + 1, 1, none⟩ (.int .i64 f2) = W6 at *
      exact ⟨_, _, rfl, RowsOwn.nil _ _, row_more (World.ownsRow.drew (by rw [Hn.out]; exact hrow)) (by omega), below_drew1 (HN2.out.below.trans (hend.2.2.mono (by omega)))⟩
end Go.Proofs.YtkiaffaieniebaaDoor
