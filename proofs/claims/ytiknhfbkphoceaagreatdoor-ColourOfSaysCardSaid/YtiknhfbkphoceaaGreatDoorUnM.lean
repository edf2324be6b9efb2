/-
  Several texts in one (UnO UnM): what each proves stands at its theorems.
  Conditions: as the theorems say.
-/
import Derived.Test.YtiknhfbkphoceaaGreatDoorUnL
import Derived.ProofKit
import Derived.LaidMore
import Derived.OpenShut
import Derived.MakeChecks
import Derived.Stop.Joined
import Derived.ChangeSame
import Derived.WideKeyArgs
import Derived.Deep.Slices
import Derived.Lib.SmallJoins
import Derived.Test.YtiknhfbkphoceaaGreatDoorRows
import Derived.Test.YtiknhfbkphoceaaGreatDoorUnY
namespace Go.Proofs.YtiknhfbkphoceaaGreatDoor
open Go.ChangeShapes Go.WideShapes Go.ChangeAt Go.RowKit Go.Deep

theorem spot_none {w : World} {a : Addr} {v : Value} (h : w.cell? a = some v) : a = ⟨a.block, a.off, none⟩ := by
  obtain ⟨b, o, s⟩ := a
  cases s with
  | none => rfl
  | some k =>
    unfold World.cell? at h
    split at h <;> simp at h
theorem i64_of_wf {n : Int} (h : (Lit.int .i64 n).wf = true) : I64 n := by
  simp only [Lit.wf, Bool.and_eq_true, decide_eq_true_eq] at h
  exact h
theorem addr_split (a : Addr) (i : Nat) (h : a = ⟨a.block, a.off, none⟩) : a.add i = ⟨a.block, a.off + i, none⟩ := by
  generalize a.block = b at h
  generalize a.off = o at h
  subst h
  unfold Addr.add
  split <;> simp_all
section
variable {H : Type} {enc : TypeId × Value → H} {w : World} {fuel : Nat} {Pr : Program}
/-- Each slice of a datum takes no more room than a machine has. -/
def Fits (P : Program) (t : TypeId) (d : DataW H) : Prop := ∀ n ∈ d.weights P t, n ≤ reachBytes
theorem fits_each : ∀ {ts : List TypeId} {ds : List (DataW H)}, (∀ n ∈ DataW.weightsEach Pr ts ds, n ≤ reachBytes) → ∀ (i : Nat) (t : TypeId) (d : DataW H), ts[i]? = some t → ds[i]? = some d → Fits Pr t d
  | [], _, _, i, t, d, ht, _ => by simp at ht
  | _ :: _, [], _, i, t, d, _, hd => by simp at hd
  | t0 :: ts, d0 :: ds, h, i, t, d, ht, hd => by
    unfold DataW.weightsEach at h
    cases i with
    | zero =>
      simp only [List.getElem?_cons_zero, Option.some.injEq] at ht hd
      subst ht; subst hd
      exact fun n hn => h n (List.mem_append_left _ hn)
    | succ i =>
      simp only [List.getElem?_cons_succ] at ht hd
      exact fits_each (fun n hn => h n (List.mem_append_right _ hn)) i t d ht hd
theorem fits_all : ∀ {e : TypeId} {ds : List (DataW H)}, (∀ n ∈ DataW.weightsAll Pr e ds, n ≤ reachBytes) → ∀ (i : Nat) (d : DataW H), ds[i]? = some d → Fits Pr e d
  | _, [], _, i, d, hd => by simp at hd
  | e, d0 :: ds, h, i, d, hd => by
    unfold DataW.weightsAll at h
    cases i with
    | zero =>
      simp only [List.getElem?_cons_zero, Option.some.injEq] at hd
      subst hd
      exact fun n hn => h n (List.mem_append_left _ hn)
    | succ i =>
      simp only [List.getElem?_cons_succ] at hd
      exact fits_all (fun n hn => h n (List.mem_append_right _ hn)) i d hd
theorem fits_field {t : TypeId} {fs : Array Field} {ys : List (DataW H × List MemPlace)} {ps : List MemPlace} (hu : Pr.underlying t = some (.struct fs)) (h : Fits Pr t ((DataW.agg (ys.map (·.1)), ps) : DataW H × List MemPlace).1) (i : Nat) (f : Field) (y : DataW H × List MemPlace)
    (hf : fs[i]? = some f) (hy : ys[i]? = some y) : Fits Pr f.type y.1 := by
  unfold Fits at h
  simp only [DataW.weights, hu] at h
  refine fits_each h i f.type y.1 ?_ ?_
  · rw [List.getElem?_map, Array.getElem?_toList, hf]; rfl
  · rw [List.getElem?_map, hy]; rfl
/-- A slice of things that each read as plain data. -/
theorem sl_of_cells {α : Type} [Inhabited α] {t e : TypeId} {size : Nat} {P : World → Nat → List Value → α → Prop} {G : α → Prop} (hu : Pr.underlying t = some (.slice e)) (hc : Pr.cellsOf e = size) (hs0 : 0 < size) (hby : 0 < Pr.bytesOf e)
    (each : ∀ (n : Nat) (cs : List Value) (x : DataW H × List MemPlace), DataW.trod enc Pr w 0 (fun _ => true) true n e cs = some x → Fits Pr e x.1 → ∃ a, P w w.heap.size cs a ∧ G a)
    {cs : List Value} {x : DataW H × List MemPlace} (h : DataW.trod enc Pr w 0 (fun _ => true) true fuel t cs = some x) (hw : Fits Pr t x.1) :
    ∃ v xs, cs = [v] ∧ SlAt size P w w.heap.size v xs ∧ ∀ x ∈ xs, G x := by
  rcases open_slice hu h with ⟨hcs, _⟩ | ⟨a, len, cap, m, n, D, Pl, hcs, _, hl, hm, hmm, hx, hi⟩
  · exact ⟨_, [], hcs, SlAt.nil _ _, fun m hm => by cases hm⟩
  · simp only [if_true] at hmm
    subst hx
    unfold Fits at hw
    simp only [DataW.weights, hu, List.mem_cons, List.mem_append, List.length_map, List.length_range] at hw
    have hcap : cap ≤ 140737488351232 := by
      have h1 := hw _ (.inl rfl)
      unfold reachBytes at h1
      have h2 : cap ≤ (len + (m - len)) * Pr.bytesOf e := by
        rw [show len + (m - len) = cap by omega]
        exact Nat.le_mul_of_pos_right _ hby
      omega
    have hfit : ∀ i, i < len → Fits Pr e (D i) := fun i hi => fits_all (ds := (List.range len).map D) (fun n hn => hw n (.inr (.inl hn))) i (D i) (by rw [List.getElem?_map, List.getElem?_range hi]; rfl)
    have each' : ∀ i, i < len → ∃ g : α, G g ∧ ∃ us : List Value, us.length = size ∧ P w w.heap.size us g ∧ ∀ j u, us[j]? = some u → w.cell? ((a.add (i * size)).add j) = some u := by
      intro i hil
      obtain ⟨cs', hc', ht⟩ := hi i (by omega)
      rw [hc] at hc'
      obtain ⟨g, hp, hg⟩ := each _ _ _ ht (hfit i hil)
      obtain ⟨_, hcl, hat⟩ := World.cells?_some hc'
      refine ⟨g, hg, cs', hcl, hp, fun j u hj => ?_⟩
      have hjs : j < size := by
        have := (List.getElem?_eq_some_iff.1 hj).1
        omega
      rw [hat j hjs]
      exact hj
    obtain ⟨f, hfm⟩ := choose_lt (n := len) (p := fun i (g : α) => G g ∧ ∃ us : List Value, us.length = size ∧ P w w.heap.size us g ∧ ∀ j u, us[j]? = some u → w.cell? ((a.add (i * size)).add j) = some u) each'
    refine ⟨_, (List.range len).map f, hcs, ⟨some a, cap, by simp, by simpa using hl, ⟨by simp; omega, by omega⟩, fun hpos => ?_⟩, fun m hm' => ?_⟩
    · simp only [List.length_map, List.length_range] at hpos
      obtain ⟨_, us0, hl0, _, h0⟩ := hfm 0 hpos
      have h0 := h0 0 (us0[0]'(by omega)) (List.getElem?_eq_getElem _)
      have ha0 : (a.add (0 * size)).add 0 = a := by simp [Addr.add]
      rw [ha0] at h0
      have hs := spot_none h0
      refine ⟨a.block, a.off, by rw [← hs], World.block_lt_of_cell? _ _ h0, fun k g hk => ?_⟩
      have hkl : k < len := by
        have := (List.getElem?_eq_some_iff.1 hk).1
        simpa using this
      have hkm : g = f k := by
        rw [List.getElem?_map, List.getElem?_range hkl] at hk
        simpa using hk.symm
      subst hkm
      have hadd : ∀ i j : Nat, (a.add (i * size)).add j = ⟨a.block, a.off + i * size + j, none⟩ := by
        intro i j
        rw [hs]
        unfold Addr.add
        by_cases h1 : i * size = 0 <;> by_cases h2 : j = 0 <;> simp [h1, h2]
      obtain ⟨_, us, _, hp, hcell⟩ := hfm k hkl
      exact ⟨us, hp, fun j u hj => (hadd k j) ▸ hcell j u hj⟩
    · obtain ⟨i, hi', rfl⟩ := List.mem_map.1 hm'
      exact (hfm i (by simpa using hi')).1
end
instance : Inhabited Glob := ⟨⟨⟨#[]⟩, 0, []⟩⟩
instance : Inhabited Opd := ⟨⟨false, 0⟩⟩
instance : Inhabited PhiU := ⟨⟨0, []⟩⟩
instance : Inhabited InsU := ⟨⟨0, 0, ⟨false, 0⟩, ⟨false, 0⟩, 0, []⟩⟩
instance : Inhabited BlkU := ⟨⟨[], [], 0, ⟨false, 0⟩, []⟩⟩
instance : Inhabited FunU := ⟨⟨⟨#[]⟩, 0, 0, []⟩⟩
section
variable {H : Type} {enc : TypeId × Value → H} {w : World} {fuel : Nat}
theorem lenU1 {α : Type} : ∀ {l : List α}, l.length = 1 → ∃ a0, l = [a0]
  | [a0], _ => ⟨a0, rfl⟩
theorem lenU2 {α : Type} : ∀ {l : List α}, l.length = 2 → ∃ a0 a1, l = [a0, a1]
  | [a0, a1], _ => ⟨a0, a1, rfl⟩
theorem lenU3 {α : Type} : ∀ {l : List α}, l.length = 3 → ∃ a0 a1 a2, l = [a0, a1, a2]
  | [a0, a1, a2], _ => ⟨a0, a1, a2, rfl⟩
theorem lenU4 {α : Type} : ∀ {l : List α}, l.length = 4 → ∃ a0 a1 a2 a3, l = [a0, a1, a2, a3]
  | [a0, a1, a2, a3], _ => ⟨a0, a1, a2, a3, rfl⟩
theorem lenU6 {α : Type} : ∀ {l : List α}, l.length = 6 → ∃ a0 a1 a2 a3 a4 a5, l = [a0, a1, a2, a3, a4, a5]
  | [a0, a1, a2, a3, a4, a5], _ => ⟨a0, a1, a2, a3, a4, a5, rfl⟩
theorem lenU8 {α : Type} : ∀ {l : List α}, l.length = 8 → ∃ a0 a1 a2 a3 a4 a5 a6 a7, l = [a0, a1, a2, a3, a4, a5, a6, a7]
  | [a0, a1, a2, a3, a4, a5, a6, a7], _ => ⟨a0, a1, a2, a3, a4, a5, a6, a7, rfl⟩
theorem lenU5 {α : Type} : ∀ {l : List α}, l.length = 5 → ∃ a0 a1 a2 a3 a4, l = [a0, a1, a2, a3, a4]
  | [a0, a1, a2, a3, a4], _ => ⟨a0, a1, a2, a3, a4, rfl⟩
theorem cO0 : Tryz.prog.cellsOf 9 = 1 := by kernel_rfl
theorem cO1 : Tryz.prog.cellsOf 3 = 1 := by kernel_rfl
theorem cO2 : Tryz.prog.cellsOf 4 = 1 := by kernel_rfl
theorem cO3 : Tryz.prog.cellsOf 26 = 1 := by kernel_rfl
theorem cO4 : Tryz.prog.cellsOf 67 = 1 := by kernel_rfl
theorem cO5 : Tryz.prog.cellsOf 73 = 1 := by kernel_rfl
theorem cO6 : Tryz.prog.cellsOf 74 = 1 := by kernel_rfl
theorem cO7 : Tryz.prog.cellsOf 41 = 1 := by kernel_rfl
theorem cO8 : Tryz.prog.cellsOf 22 = 1 := by kernel_rfl
theorem cO9 : Tryz.prog.cellsOf 23 = 1 := by kernel_rfl
theorem cO10 : Tryz.prog.cellsOf 66 = 2 := by kernel_rfl
theorem cO11 : Tryz.prog.cellsOf 76 = 4 := by kernel_rfl
theorem ints_of_cells {cs : List Value} {x : DataW H × List MemPlace} (h : DataW.trod enc Tryz.prog w 0 (fun _ => true) true fuel 26 cs = some x) :
    ∃ v xs, cs = [v] ∧ IntsAt w w.heap.size v xs ∧ ∀ x ∈ xs, I64 x := by
  rcases open_ints Tryz.underlying26 Tryz.underlying3 (by kernel_rfl) h with ⟨hcs, _⟩ | ⟨a, len, cap, zs, hcs, _, hl, hm, hz, _, hc, hw⟩
  · exact ⟨_, [], hcs, ⟨none, 0, rfl, by simp, by omega, fun h => by simp at h⟩, fun m hm => by cases hm⟩
  · simp only [if_true] at hz
    have hlen : (zs.take len).length = len := by rw [List.length_take]; omega
    refine ⟨_, zs.take len, hcs, ⟨some a, cap, by rw [hlen], by rw [hlen]; exact hl, by unfold maxLen at hm; omega, fun hpos => ?_⟩, fun x hx => i64_of_wf (hw x (List.mem_of_mem_take hx))⟩
    rw [hlen] at hpos
    have h0 := hc 0 (by omega)
    rw [add_zero_addr] at h0
    have hs := spot_none h0
    refine ⟨a.block, a.off, by rw [← hs], World.block_lt_of_cell? _ _ h0, fun k x hk => ?_⟩
    have hk' : k < len := by
      have := (List.getElem?_eq_some_iff.1 hk).1
      omega
    have := hc k (by omega)
    rw [addr_split a k hs] at this
    rw [this]
    rw [List.getElem?_take] at hk
    rw [if_pos hk'] at hk
    rw [List.getD_eq_getElem?_getD, hk]
    rfl
set_option maxRecDepth 100000 in
theorem opd_of_cells {cs : List Value} {x : DataW H × List MemPlace} (h : DataW.trod enc Tryz.prog w 0 (fun _ => true) true fuel 66 cs = some x) (hw : Fits Tryz.prog 66 x.1) :
    ∃ o : Opd, OpdP w w.heap.size cs o ∧ o.ok := by
  obtain ⟨ys, n, rfl, rfl, hl, hy, hf⟩ := DataW.trod_struct Tryz.underlying66 h
  have cT : Tryz.prog.cellsOf 66 = 2 := by kernel_rfl
  rw [cT] at hl
  obtain ⟨v0, v1, rfl⟩ := lenU2 hl
  obtain ⟨y0, y1, rfl⟩ := lenU2 (hy.trans rfl)
  have g0 := hf 0 _ rfl
  change DataW.trod _ _ _ _ _ _ _ 4 (List.take (Tryz.prog.cellsOf 4) (List.drop 0 _)) = _ at g0
  rw [cO2] at g0
  have w0 := fits_field (ys := [y0, y1]) Tryz.underlying66 hw 0 _ y0 rfl rfl
  have g1 := hf 1 _ rfl
  change DataW.trod _ _ _ _ _ _ _ 3 (List.take (Tryz.prog.cellsOf 3) (List.drop 1 _)) = _ at g1
  rw [cO1] at g1
  have w1 := fits_field (ys := [y0, y1]) Tryz.underlying66 hw 1 _ y1 rfl rfl
  simp only [List.getElem?_cons_zero, List.getElem?_cons_succ, List.drop_zero, List.drop_succ_cons, List.take_succ_cons, List.take_zero] at g0 g1
  obtain ⟨z0, e0, _⟩ := DataW.trod_bool Tryz.underlying4 g0
  obtain ⟨z1, e1, _, s1⟩ := DataW.trod_int Tryz.underlying3 g1
  simp only [List.cons.injEq, and_true] at e0 e1
  subst e0
  subst e1
  exact ⟨⟨z0, z1⟩, rfl, ⟨i64_of_wf s1⟩⟩
theorem opds_of_cells {cs : List Value} {x : DataW H × List MemPlace} (h : DataW.trod enc Tryz.prog w 0 (fun _ => true) true fuel 67 cs = some x) (hw : Fits Tryz.prog 67 x.1) :
    ∃ v xs, cs = [v] ∧ SlAt 2 OpdP w w.heap.size v xs ∧ ∀ x ∈ xs, Opd.ok x :=
  sl_of_cells (P := OpdP) (G := Opd.ok) Tryz.underlying67 (by kernel_rfl) (by omega) (of_decide_eq_true (by kernel_rfl)) (fun _ _ _ h hw => opd_of_cells h hw) h hw
set_option maxRecDepth 100000 in
theorem phi_of_cells {cs : List Value} {x : DataW H × List MemPlace} (h : DataW.trod enc Tryz.prog w 0 (fun _ => true) true fuel 134 cs = some x) (hw : Fits Tryz.prog 134 x.1) :
    ∃ o : PhiU, PhiP w w.heap.size cs o ∧ o.ok := by
  obtain ⟨ys, n, rfl, rfl, hl, hy, hf⟩ := DataW.trod_struct Tryz.underlying134 h
  have cT : Tryz.prog.cellsOf 134 = 2 := by kernel_rfl
  rw [cT] at hl
  obtain ⟨v0, v1, rfl⟩ := lenU2 hl
  obtain ⟨y0, y1, rfl⟩ := lenU2 (hy.trans rfl)
  have g0 := hf 0 _ rfl
  change DataW.trod _ _ _ _ _ _ _ 3 (List.take (Tryz.prog.cellsOf 3) (List.drop 0 _)) = _ at g0
  rw [cO1] at g0
  have w0 := fits_field (ys := [y0, y1]) Tryz.underlying134 hw 0 _ y0 rfl rfl
  have g1 := hf 1 _ rfl
  change DataW.trod _ _ _ _ _ _ _ 67 (List.take (Tryz.prog.cellsOf 67) (List.drop 1 _)) = _ at g1
  rw [cO4] at g1
  have w1 := fits_field (ys := [y0, y1]) Tryz.underlying134 hw 1 _ y1 rfl rfl
  simp only [List.getElem?_cons_zero, List.getElem?_cons_succ, List.drop_zero, List.drop_succ_cons, List.take_succ_cons, List.take_zero] at g0 g1
  obtain ⟨z0, e0, _, s0⟩ := DataW.trod_int Tryz.underlying3 g0
  obtain ⟨u1, z1, e1, p1, s1⟩ := opds_of_cells g1 w1
  simp only [List.cons.injEq, and_true] at e0 e1
  subst e0
  subst e1
  exact ⟨⟨z0, z1⟩, ⟨_, rfl, p1⟩, ⟨i64_of_wf s0, s1⟩⟩
theorem phis_of_cells {cs : List Value} {x : DataW H × List MemPlace} (h : DataW.trod enc Tryz.prog w 0 (fun _ => true) true fuel 73 cs = some x) (hw : Fits Tryz.prog 73 x.1) :
    ∃ v xs, cs = [v] ∧ SlAt 2 PhiP w w.heap.size v xs ∧ ∀ x ∈ xs, PhiU.ok x :=
  sl_of_cells (P := PhiP) (G := PhiU.ok) Tryz.underlying73 (by kernel_rfl) (by omega) (of_decide_eq_true (by kernel_rfl)) (fun _ _ _ h hw => phi_of_cells h hw) h hw
set_option maxRecDepth 100000 in
theorem ins_of_cells {cs : List Value} {x : DataW H × List MemPlace} (h : DataW.trod enc Tryz.prog w 0 (fun _ => true) true fuel 69 cs = some x) (hw : Fits Tryz.prog 69 x.1) :
    ∃ o : InsU, InsP w w.heap.size cs o ∧ o.ok := by
  obtain ⟨ys, n, rfl, rfl, hl, hy, hf⟩ := DataW.trod_struct Tryz.underlying69 h
  have cT : Tryz.prog.cellsOf 69 = 8 := by kernel_rfl
  rw [cT] at hl
  obtain ⟨v0, v1, v2, v3, v4, v5, v6, v7, rfl⟩ := lenU8 hl
  obtain ⟨y0, y1, y2, y3, y4, y5, rfl⟩ := lenU6 (hy.trans rfl)
  have g0 := hf 0 _ rfl
  change DataW.trod _ _ _ _ _ _ _ 3 (List.take (Tryz.prog.cellsOf 3) (List.drop 0 _)) = _ at g0
  rw [cO1] at g0
  have w0 := fits_field (ys := [y0, y1, y2, y3, y4, y5]) Tryz.underlying69 hw 0 _ y0 rfl rfl
  have g1 := hf 1 _ rfl
  change DataW.trod _ _ _ _ _ _ _ 3 (List.take (Tryz.prog.cellsOf 3) (List.drop 1 _)) = _ at g1
  rw [cO1] at g1
  have w1 := fits_field (ys := [y0, y1, y2, y3, y4, y5]) Tryz.underlying69 hw 1 _ y1 rfl rfl
  have g2 := hf 2 _ rfl
  change DataW.trod _ _ _ _ _ _ _ 66 (List.take (Tryz.prog.cellsOf 66) (List.drop 2 _)) = _ at g2
  rw [cO10] at g2
  have w2 := fits_field (ys := [y0, y1, y2, y3, y4, y5]) Tryz.underlying69 hw 2 _ y2 rfl rfl
  have g3 := hf 3 _ rfl
  change DataW.trod _ _ _ _ _ _ _ 66 (List.take (Tryz.prog.cellsOf 66) (List.drop 4 _)) = _ at g3
  rw [cO10] at g3
  have w3 := fits_field (ys := [y0, y1, y2, y3, y4, y5]) Tryz.underlying69 hw 3 _ y3 rfl rfl
  have g4 := hf 4 _ rfl
  change DataW.trod _ _ _ _ _ _ _ 3 (List.take (Tryz.prog.cellsOf 3) (List.drop 6 _)) = _ at g4
  rw [cO1] at g4
  have w4 := fits_field (ys := [y0, y1, y2, y3, y4, y5]) Tryz.underlying69 hw 4 _ y4 rfl rfl
  have g5 := hf 5 _ rfl
  change DataW.trod _ _ _ _ _ _ _ 67 (List.take (Tryz.prog.cellsOf 67) (List.drop 7 _)) = _ at g5
  rw [cO4] at g5
  have w5 := fits_field (ys := [y0, y1, y2, y3, y4, y5]) Tryz.underlying69 hw 5 _ y5 rfl rfl
  simp only [List.getElem?_cons_zero, List.getElem?_cons_succ, List.drop_zero, List.drop_succ_cons, List.take_succ_cons, List.take_zero] at g0 g1 g2 g3 g4 g5
  obtain ⟨z0, e0, _, s0⟩ := DataW.trod_int Tryz.underlying3 g0
  obtain ⟨z1, e1, _, s1⟩ := DataW.trod_int Tryz.underlying3 g1
  obtain ⟨z2, e2, s2⟩ := opd_of_cells g2 w2
  unfold OpdP at e2
  obtain ⟨z3, e3, s3⟩ := opd_of_cells g3 w3
  unfold OpdP at e3
  obtain ⟨z4, e4, _, s4⟩ := DataW.trod_int Tryz.underlying3 g4
  obtain ⟨u5, z5, e5, p5, s5⟩ := opds_of_cells g5 w5
  simp only [List.cons.injEq, and_true] at e0 e1 e2 e3 e4 e5
  subst e0
  subst e1
  obtain ⟨rfl, rfl⟩ := e2
  obtain ⟨rfl, rfl⟩ := e3
  subst e4
  subst e5
  exact ⟨⟨z0, z1, z2, z3, z4, z5⟩, ⟨_, rfl, p5⟩, ⟨i64_of_wf s0, i64_of_wf s1, s2, s3, i64_of_wf s4, s5⟩⟩
theorem inss_of_cells {cs : List Value} {x : DataW H × List MemPlace} (h : DataW.trod enc Tryz.prog w 0 (fun _ => true) true fuel 74 cs = some x) (hw : Fits Tryz.prog 74 x.1) :
    ∃ v xs, cs = [v] ∧ SlAt 8 InsP w w.heap.size v xs ∧ ∀ x ∈ xs, InsU.ok x :=
  sl_of_cells (P := InsP) (G := InsU.ok) Tryz.underlying74 (by kernel_rfl) (by omega) (of_decide_eq_true (by kernel_rfl)) (fun _ _ _ h hw => ins_of_cells h hw) h hw
set_option maxRecDepth 100000 in
theorem end_of_cells {cs : List Value} {x : DataW H × List MemPlace} (h : DataW.trod enc Tryz.prog w 0 (fun _ => true) true fuel 76 cs = some x) (hw : Fits Tryz.prog 76 x.1) :
    ∃ (k : Int) (o : Opd) (t : List Int) (tv : Value), cs = [.int .i64 k, .bool o.reg, .int .i64 o.n, tv] ∧ IntsAt w w.heap.size tv t ∧ (I64 k ∧ o.ok ∧ ∀ n ∈ t, I64 n) := by
  obtain ⟨ys, n, rfl, rfl, hl, hy, hf⟩ := DataW.trod_struct Tryz.underlying76 h
  have cT : Tryz.prog.cellsOf 76 = 4 := by kernel_rfl
  rw [cT] at hl
  obtain ⟨v0, v1, v2, v3, rfl⟩ := lenU4 hl
  obtain ⟨y0, y1, y2, rfl⟩ := lenU3 (hy.trans rfl)
  have g0 := hf 0 _ rfl
  change DataW.trod _ _ _ _ _ _ _ 3 (List.take (Tryz.prog.cellsOf 3) (List.drop 0 _)) = _ at g0
  rw [cO1] at g0
  have w0 := fits_field (ys := [y0, y1, y2]) Tryz.underlying76 hw 0 _ y0 rfl rfl
  have g1 := hf 1 _ rfl
  change DataW.trod _ _ _ _ _ _ _ 66 (List.take (Tryz.prog.cellsOf 66) (List.drop 1 _)) = _ at g1
  rw [cO10] at g1
  have w1 := fits_field (ys := [y0, y1, y2]) Tryz.underlying76 hw 1 _ y1 rfl rfl
  have g2 := hf 2 _ rfl
  change DataW.trod _ _ _ _ _ _ _ 26 (List.take (Tryz.prog.cellsOf 26) (List.drop 3 _)) = _ at g2
  rw [cO3] at g2
  have w2 := fits_field (ys := [y0, y1, y2]) Tryz.underlying76 hw 2 _ y2 rfl rfl
  simp only [List.getElem?_cons_zero, List.getElem?_cons_succ, List.drop_zero, List.drop_succ_cons, List.take_succ_cons, List.take_zero] at g0 g1 g2
  obtain ⟨z0, e0, _, s0⟩ := DataW.trod_int Tryz.underlying3 g0
  obtain ⟨z1, e1, s1⟩ := opd_of_cells g1 w1
  unfold OpdP at e1
  obtain ⟨u2, z2, e2, p2, s2⟩ := ints_of_cells g2
  simp only [List.cons.injEq, and_true] at e0 e1 e2
  subst e0
  obtain ⟨rfl, rfl⟩ := e1
  subst e2
  exact ⟨z0, z1, z2, _, rfl, p2, i64_of_wf s0, s1, s2⟩
set_option maxRecDepth 100000 in
theorem blk_of_cells {cs : List Value} {x : DataW H × List MemPlace} (h : DataW.trod enc Tryz.prog w 0 (fun _ => true) true fuel 78 cs = some x) (hw : Fits Tryz.prog 78 x.1) :
    ∃ o : BlkU, BlkP w w.heap.size cs o ∧ o.ok := by
  obtain ⟨ys, n, rfl, rfl, hl, hy, hf⟩ := DataW.trod_struct Tryz.underlying78 h
  have cT : Tryz.prog.cellsOf 78 = 6 := by kernel_rfl
  rw [cT] at hl
  obtain ⟨v0, v1, v2, v3, v4, v5, rfl⟩ := lenU6 hl
  obtain ⟨y0, y1, y2, rfl⟩ := lenU3 (hy.trans rfl)
  have g0 := hf 0 _ rfl
  change DataW.trod _ _ _ _ _ _ _ 73 (List.take (Tryz.prog.cellsOf 73) (List.drop 0 _)) = _ at g0
  rw [cO5] at g0
  have w0 := fits_field (ys := [y0, y1, y2]) Tryz.underlying78 hw 0 _ y0 rfl rfl
  have g1 := hf 1 _ rfl
  change DataW.trod _ _ _ _ _ _ _ 74 (List.take (Tryz.prog.cellsOf 74) (List.drop 1 _)) = _ at g1
  rw [cO6] at g1
  have w1 := fits_field (ys := [y0, y1, y2]) Tryz.underlying78 hw 1 _ y1 rfl rfl
  have g2 := hf 2 _ rfl
  change DataW.trod _ _ _ _ _ _ _ 76 (List.take (Tryz.prog.cellsOf 76) (List.drop 2 _)) = _ at g2
  rw [cO11] at g2
  have w2 := fits_field (ys := [y0, y1, y2]) Tryz.underlying78 hw 2 _ y2 rfl rfl
  simp only [List.getElem?_cons_zero, List.getElem?_cons_succ, List.drop_zero, List.drop_succ_cons, List.take_succ_cons, List.take_zero] at g0 g1 g2
  obtain ⟨u0, z0, e0, p0, s0⟩ := phis_of_cells g0 w0
  obtain ⟨u1, z1, e1, p1, s1⟩ := inss_of_cells g1 w1
  obtain ⟨k2, o2, t2, tv2, e2, p2, s2⟩ := end_of_cells g2 w2
  simp only [List.cons.injEq, and_true] at e0 e1 e2
  subst e0
  subst e1
  obtain ⟨rfl, rfl, rfl, rfl⟩ := e2
  exact ⟨⟨z0, z1, k2, o2, t2⟩, ⟨_, _, _, rfl, p0, p1, p2⟩, ⟨s0, s1, s2.1, s2.2.1, s2.2.2⟩⟩
theorem blks_of_cells {cs : List Value} {x : DataW H × List MemPlace} (h : DataW.trod enc Tryz.prog w 0 (fun _ => true) true fuel 41 cs = some x) (hw : Fits Tryz.prog 41 x.1) :
    ∃ v xs, cs = [v] ∧ SlAt 6 BlkP w w.heap.size v xs ∧ ∀ x ∈ xs, BlkU.ok x :=
  sl_of_cells (P := BlkP) (G := BlkU.ok) Tryz.underlying41 (by kernel_rfl) (by omega) (of_decide_eq_true (by kernel_rfl)) (fun _ _ _ h hw => blk_of_cells h hw) h hw
set_option maxRecDepth 100000 in
theorem fun_of_cells {cs : List Value} {x : DataW H × List MemPlace} (h : DataW.trod enc Tryz.prog w 0 (fun _ => true) true fuel 43 cs = some x) (hw : Fits Tryz.prog 43 x.1) :
    ∃ o : FunU, FunP w w.heap.size cs o ∧ o.ok := by
  obtain ⟨ys, n, rfl, rfl, hl, hy, hf⟩ := DataW.trod_struct Tryz.underlying43 h
  have cT : Tryz.prog.cellsOf 43 = 4 := by kernel_rfl
  rw [cT] at hl
  obtain ⟨v0, v1, v2, v3, rfl⟩ := lenU4 hl
  obtain ⟨y0, y1, y2, y3, rfl⟩ := lenU4 (hy.trans rfl)
  have g0 := hf 0 _ rfl
  change DataW.trod _ _ _ _ _ _ _ 9 (List.take (Tryz.prog.cellsOf 9) (List.drop 0 _)) = _ at g0
  rw [cO0] at g0
  have w0 := fits_field (ys := [y0, y1, y2, y3]) Tryz.underlying43 hw 0 _ y0 rfl rfl
  have g1 := hf 1 _ rfl
  change DataW.trod _ _ _ _ _ _ _ 3 (List.take (Tryz.prog.cellsOf 3) (List.drop 1 _)) = _ at g1
  rw [cO1] at g1
  have w1 := fits_field (ys := [y0, y1, y2, y3]) Tryz.underlying43 hw 1 _ y1 rfl rfl
  have g2 := hf 2 _ rfl
  change DataW.trod _ _ _ _ _ _ _ 3 (List.take (Tryz.prog.cellsOf 3) (List.drop 2 _)) = _ at g2
  rw [cO1] at g2
  have w2 := fits_field (ys := [y0, y1, y2, y3]) Tryz.underlying43 hw 2 _ y2 rfl rfl
  have g3 := hf 3 _ rfl
  change DataW.trod _ _ _ _ _ _ _ 41 (List.take (Tryz.prog.cellsOf 41) (List.drop 3 _)) = _ at g3
  rw [cO7] at g3
  have w3 := fits_field (ys := [y0, y1, y2, y3]) Tryz.underlying43 hw 3 _ y3 rfl rfl
  simp only [List.getElem?_cons_zero, List.getElem?_cons_succ, List.drop_zero, List.drop_succ_cons, List.take_succ_cons, List.take_zero] at g0 g1 g2 g3
  obtain ⟨z0, e0, _, s0⟩ := DataW.trod_string Tryz.underlying9 g0
  obtain ⟨z1, e1, _, s1⟩ := DataW.trod_int Tryz.underlying3 g1
  obtain ⟨z2, e2, _, s2⟩ := DataW.trod_int Tryz.underlying3 g2
  obtain ⟨u3, z3, e3, p3, s3⟩ := blks_of_cells g3 w3
  simp only [List.cons.injEq, and_true] at e0 e1 e2 e3
  subst e0
  subst e1
  subst e2
  subst e3
  exact ⟨⟨z0, z1, z2, z3⟩, ⟨_, rfl, p3⟩, ⟨by unfold maxLen at s0; simp only; omega, i64_of_wf s1, i64_of_wf s2, s3⟩⟩
theorem funs_of_cells {cs : List Value} {x : DataW H × List MemPlace} (h : DataW.trod enc Tryz.prog w 0 (fun _ => true) true fuel 23 cs = some x) (hw : Fits Tryz.prog 23 x.1) :
    ∃ v xs, cs = [v] ∧ SlAt 4 FunP w w.heap.size v xs ∧ ∀ x ∈ xs, FunU.ok x :=
  sl_of_cells (P := FunP) (G := FunU.ok) Tryz.underlying23 (by kernel_rfl) (by omega) (of_decide_eq_true (by kernel_rfl)) (fun _ _ _ h hw => fun_of_cells h hw) h hw
def GlobP (w : World) (B : Nat) (us : List Value) (g : Glob) : Prop := ∃ iv, us = [.string g.name, .int .i64 g.size, iv] ∧ IntsAt w B iv g.init
def Glob.ok (g : Glob) : Prop := g.name.size ≤ 9223372036854775807 ∧ I64 g.size
set_option maxRecDepth 100000 in
theorem glob_of_cells {cs : List Value} {x : DataW H × List MemPlace} (h : DataW.trod enc Tryz.prog w 0 (fun _ => true) true fuel 114 cs = some x) (hw : Fits Tryz.prog 114 x.1) :
    ∃ o : Glob, GlobP w w.heap.size cs o ∧ o.ok := by
  obtain ⟨ys, n, rfl, rfl, hl, hy, hf⟩ := DataW.trod_struct Tryz.underlying114 h
  have cT : Tryz.prog.cellsOf 114 = 3 := by kernel_rfl
  rw [cT] at hl
  obtain ⟨v0, v1, v2, rfl⟩ := lenU3 hl
  obtain ⟨y0, y1, y2, rfl⟩ := lenU3 (hy.trans rfl)
  have g0 := hf 0 _ rfl
  change DataW.trod _ _ _ _ _ _ _ 9 (List.take (Tryz.prog.cellsOf 9) (List.drop 0 _)) = _ at g0
  rw [cO0] at g0
  have w0 := fits_field (ys := [y0, y1, y2]) Tryz.underlying114 hw 0 _ y0 rfl rfl
  have g1 := hf 1 _ rfl
  change DataW.trod _ _ _ _ _ _ _ 3 (List.take (Tryz.prog.cellsOf 3) (List.drop 1 _)) = _ at g1
  rw [cO1] at g1
  have w1 := fits_field (ys := [y0, y1, y2]) Tryz.underlying114 hw 1 _ y1 rfl rfl
  have g2 := hf 2 _ rfl
  change DataW.trod _ _ _ _ _ _ _ 26 (List.take (Tryz.prog.cellsOf 26) (List.drop 2 _)) = _ at g2
  rw [cO3] at g2
  have w2 := fits_field (ys := [y0, y1, y2]) Tryz.underlying114 hw 2 _ y2 rfl rfl
  simp only [List.getElem?_cons_zero, List.getElem?_cons_succ, List.drop_zero, List.drop_succ_cons, List.take_succ_cons, List.take_zero] at g0 g1 g2
  obtain ⟨z0, e0, _, s0⟩ := DataW.trod_string Tryz.underlying9 g0
  obtain ⟨z1, e1, _, s1⟩ := DataW.trod_int Tryz.underlying3 g1
  obtain ⟨u2, z2, e2, p2, s2⟩ := ints_of_cells g2
  simp only [List.cons.injEq, and_true] at e0 e1 e2
  subst e0
  subst e1
  subst e2
  exact ⟨⟨z0, z1, z2⟩, ⟨_, rfl, p2⟩, ⟨by unfold maxLen at s0; simp only; omega, i64_of_wf s1⟩⟩
theorem globs_of_cells {cs : List Value} {x : DataW H × List MemPlace} (h : DataW.trod enc Tryz.prog w 0 (fun _ => true) true fuel 22 cs = some x) (hw : Fits Tryz.prog 22 x.1) :
    ∃ v gs, cs = [v] ∧ GlobsAt w w.heap.size v gs ∧ ∀ g ∈ gs, g.ok := by
  obtain ⟨v, gs, e, hs, hg⟩ := sl_of_cells (P := GlobP) (G := Glob.ok) (size := 3) Tryz.underlying22 (by kernel_rfl) (by omega) (of_decide_eq_true (by kernel_rfl)) (fun _ _ _ h hw => glob_of_cells h hw) h hw
  refine ⟨v, gs, e, ?_, hg⟩
  obtain ⟨A, c, e1, h1, h2, h3⟩ := hs
  refine ⟨A, c, e1, h1, by omega, fun hl => ?_⟩
  obtain ⟨b, off, e2, e3, e4⟩ := h3 hl
  refine ⟨b, off, e2, e3, fun k g hk => ?_⟩
  obtain ⟨us, ⟨iv, rfl, hi⟩, hc⟩ := e4 k g hk
  exact ⟨iv, hc 0 _ rfl, hc 1 _ rfl, hc 2 _ rfl, hi⟩
set_option maxRecDepth 100000 in
theorem unit_of_cells {cs : List Value} {x : DataW H × List MemPlace} (h : DataW.trod enc Tryz.prog w 0 (fun _ => true) true fuel 25 cs = some x) (hw : Fits Tryz.prog 25 x.1) :
    ∃ gv fv gs fs, cs = [gv, fv] ∧ GlobsAt w w.heap.size gv gs ∧ FunsAt w w.heap.size fv fs ∧ (∀ g ∈ gs, g.ok) ∧ ∀ f ∈ fs, f.ok := by
  obtain ⟨ys, n, rfl, rfl, hl, hy, hf⟩ := DataW.trod_struct Tryz.underlying25 h
  have cT : Tryz.prog.cellsOf 25 = 2 := by kernel_rfl
  rw [cT] at hl
  obtain ⟨v0, v1, rfl⟩ := lenU2 hl
  obtain ⟨y0, y1, rfl⟩ := lenU2 (hy.trans rfl)
  have g0 := hf 0 _ rfl
  change DataW.trod _ _ _ _ _ _ _ 22 (List.take (Tryz.prog.cellsOf 22) (List.drop 0 _)) = _ at g0
  rw [cO8] at g0
  have w0 := fits_field (ys := [y0, y1]) Tryz.underlying25 hw 0 _ y0 rfl rfl
  have g1 := hf 1 _ rfl
  change DataW.trod _ _ _ _ _ _ _ 23 (List.take (Tryz.prog.cellsOf 23) (List.drop 1 _)) = _ at g1
  rw [cO9] at g1
  have w1 := fits_field (ys := [y0, y1]) Tryz.underlying25 hw 1 _ y1 rfl rfl
  simp only [List.getElem?_cons_zero, List.getElem?_cons_succ, List.drop_zero, List.drop_succ_cons, List.take_succ_cons, List.take_zero] at g0 g1
  obtain ⟨u0, z0, e0, p0, s0⟩ := globs_of_cells g0 w0
  obtain ⟨u1, z1, e1, p1, s1⟩ := funs_of_cells g1 w1
  simp only [List.cons.injEq, and_true] at e0 e1
  subst e0
  subst e1
  exact ⟨_, _, z0, z1, rfl, p0, p1, s0, s1⟩
end
end Go.Proofs.YtiknhfbkphoceaaGreatDoor
namespace Go.Proofs.YtiknhfbkphoceaaGreatDoor
open Go.ChangeShapes Go.WideShapes Go.ChangeAt Go.WideElems Go.RowKit

theorem own : ownKnob Tryz.prog.godebug = none := by kernel_rfl
theorem laidOutAll : laidOutB Tryz.prog = true := by kernel_rfl
theorem gWays : Tryz.prog.globalNamed "turnery/code.ways" = some 0 := by kernel_rfl
theorem tWays : (Tryz.prog.globals[0]?).map (·.type) = some 153 := by kernel_rfl
def laidAll : List (String × DataW Unit) := [("turnery/code.ways", Rows.laid_turnery_code_ways)]
theorem door_met (os : Os) (args : Array Value) : laidMetH Tryz.prog laidAll ((World.doorLaid Tryz.prog 400 os).forCall (fun _ _ => 0) ⟨#[], args, []⟩).memory :=
  laidMetH_of_parts3 (fuel := 8) (laidMet_of_run' 8 (by kernel_rfl) (by kernel_rfl)) (by kernel_rfl) (by kernel_rfl)
theorem ways_of_laid {W : World} (h : laidMetH Tryz.prog laidAll W) : Ways W := by
  rw [MakeChecks.laidMetH_plain _ _ _ (by kernel_rfl)] at h
  obtain ⟨ps, ⟨g0, t0, cs0, f0, p0, q0, hg0, ht0, hv0, hd0, _, _⟩, _, _⟩ := h
  obtain rfl := Option.some.inj (gWays.symm.trans hg0)
  obtain rfl := Option.some.inj (tWays.symm.trans ht0)
  obtain ⟨xs, m1, rfl, hx1, hlen, hn, hel⟩ := DataW.trod_array Tryz.underlying153 hd0
  have hxs : xs.map (·.1) = [.lit (.int .i64 0), .lit (.int .i64 0), .lit (.int .i64 1), .lit (.int .i64 2)] := by
    simp only [Prod.mk.injEq] at hx1
    exact (DataW.agg.inj hx1.1).symm
  have hcell : ∀ i, W.cell? ⟨0, i, none⟩ = cs0[i]? := fun i => World.var?_cell hg0 hv0 i
  have each : ∀ (k : Nat) (z : Int), k < 4 → (xs.map (·.1))[k]? = some (.lit (.int .i64 z)) → W.cell? ⟨0, k, none⟩ = some (.int .i64 z) := by
    intro k z hk hz
    have h1 := hel k (by simpa using hk)
    rw [cO1] at h1
    rw [List.getElem?_map] at hz
    cases hx : xs[k]? with
    | none => rw [hx] at hz; cases hz
    | some x =>
      rw [hx] at h1 hz
      simp only [Option.map_some, Option.some.injEq] at hz
      obtain ⟨b, e, r, _⟩ := DataW.trod_int Tryz.underlying3 h1
      rw [r] at hz
      simp only [DataW.lit.injEq, Lit.int.injEq, true_and] at hz
      subst hz
      rw [hcell]
      have h2 : ((cs0.toList.drop (k * 1)).take 1)[0]? = some (.int .i64 b) := by rw [e]; rfl
      rw [List.getElem?_take, if_pos (by omega), List.getElem?_drop] at h2
      simpa using h2
  have hw1 := each 1 0 (by omega) (by rw [hxs]; rfl)
  exact ⟨block_lt_of_cell hw1, hw1, each 2 1 (by omega) (by rw [hxs]; rfl), each 3 2 (by omega) (by rw [hxs]; rfl)⟩
theorem trodAll_below {H : Type} {enc : TypeId × Value → H} {P : Program} (hl : laidOutB P = true) {W W' : World} (hb : Below W.heap.size W W') {sp : Nat → Bool} :
    ∀ {ts : List TypeId} {vs : List Value} {ds : List (DataW H)} {ps : List MemPlace}, (∀ t ∈ ts, P.readableRec t = true ∧ t < P.types.size) →
      DataW.TrodAll enc P W 0 (fun _ => true) true ts vs ds ps → (∀ p ∈ ps, p.block < W.heap.size) → (∀ p ∈ ps, sp p.block = true) → DataW.TrodAll enc P W' 0 sp true ts vs ds ps
  | [], [], [], _, _, h, _, _ => h
  | t :: _, _ :: _, _ :: _, _, ht, ⟨p, q, h1, h2, e⟩, hlt, hs =>
    ⟨p, q, WideElems.Trod_stays hl (ht t (by simp)).1 (ht t (by simp)).2 h1 (fun x hx => hb.same (hlt x (by rw [e]; exact List.mem_append_left _ hx))) (fun x hx => hs x (by rw [e]; exact List.mem_append_left _ hx)),
      trodAll_below hl hb (fun t' ht' => ht t' (by simp [ht'])) h2 (fun x hx => hlt x (by rw [e]; exact List.mem_append_right _ hx)) (fun x hx => hs x (by rw [e]; exact List.mem_append_right _ hx)), e⟩
theorem law_post {H : Type} {enc : TypeId × Value → H} {P : Program} (hl : laidOutB P = true) {f : Func} {s : ChangeSpec} {W W' : World} {args : Array Value} {ds gs : List (DataW H)} {before : List MemPlace} {tb : TypeId}
    (hW : DataW.Whole enc P f.params.toList s.vars false W args.toList ds gs before) (hsv : s.vars = []) (hfn : s.fn H (ds ++ gs) = { results := [.lit (.bool true)], args := ds })
    (hres : f.resultTypes = #[tb]) (htb : P.underlying tb = some .bool) (hts : (f.params.toList.all fun t => P.readableRec t && decide (t < P.types.size)) = true) (hb : Below W.heap.size W W') :
    s.post enc P f false true false false W args (.bool true) W' := by
  have hlt : ∀ p ∈ before, p.block < W.heap.size := fun p hp => hW.lt p hp
  obtain ⟨p, q, hA, hV, he, hz, hn⟩ := id hW
  have hq : q = [] := by
    rw [hsv] at hV
    exact (trodVars_none hV).2
  have hbp : before = p := by rw [he, hq, List.append_nil]
  refine ⟨ds, gs, before, [], p, [], hW, ?_, ?_, ?_, World.keptBut_mono (fun x hx => ⟨hx, .inr (.inl (hbp ▸ hx))⟩) (hb.frame (· ∈ before)), fun h => by cases h⟩
  · rw [hfn, hres]
    exact trodAll_mk1 (shut_bool htb true)
  · rw [hfn]
    refine trodAll_below hl hb (fun t ht => ?_) hA (fun x hx => hlt x (hbp ▸ hx)) (fun x hx => by simpa using hlt x (hbp ▸ hx))
    have := List.all_eq_true.1 hts t ht
    simpa using this
  · rw [hfn, hsv]
    rfl
section
variable {H : Type} {enc : TypeId × Value → H} {w : World}
set_option maxRecDepth 100000 in
theorem int_of_trod {r : Reach} {b0 base : Nat} {spare : Nat → Bool} {held : Bool} {v : Value} {d : DataW H} {ps : List MemPlace} (hval : Value.okWide Tryz.prog w r b0 3 v) (hd : DataW.Trod enc Tryz.prog w base spare held 3 v d ps) : ∃ n, v = .int .i64 n ∧ I64 n := by
  obtain ⟨n, h, _, _, hw⟩ := open_int Tryz.underlying3 hval hd
  exact ⟨n, h, i64_of_wf hw⟩
/-- A law's unit. -/
theorem unit_of_trod {v : Value} {d : DataW H} {ps : List MemPlace} (hv : ∃ cs : Array Value, v = .agg cs) (h : DataW.Trod enc Tryz.prog w 0 (fun _ => true) true 25 v d ps) (hw : Fits Tryz.prog 25 d) (hways : Ways w) :
    ∃ gv fv gs fs, v = .agg #[gv, fv] ∧ UnitAt w w.heap.size gv fv gs fs := by
  obtain ⟨cs, rfl⟩ := hv
  obtain ⟨fu, hfu⟩ := h
  obtain ⟨gv, fv, gs, fs, hmm, hg, hf, hgo, hfo⟩ := unit_of_cells hfu hw
  obtain rfl : cs = #[gv, fv] := Array.ext' hmm
  exact ⟨gv, fv, gs, fs, rfl, hg, hf, hgo, hfo, hways, hways.lt, Nat.le_refl _⟩
end
end Go.Proofs.YtiknhfbkphoceaaGreatDoor
