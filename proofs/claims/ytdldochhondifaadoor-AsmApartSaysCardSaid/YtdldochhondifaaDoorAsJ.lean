/-
  PLAIN: an image's text; what an image that may run is; its arguments opened.
  Conditions: none.
-/
import Derived.Test.YtdldochhondifaaDoorAsG
import Derived.Test.YtdldochhondifaaDoorMcZ
namespace Go.Proofs.YtdldochhondifaaDoor
open Go.ChangeShapes Go.WideShapes Go.ChangeAt Go.RowKit Go.Deep

theorem firstBad_zeroA {bad : Nat → Int} {n : Nat} (h : (firstBad bad n).1 = 0) : ∀ j, j < n → bad j = 0 := by
  intro j hj
  unfold firstBad at h
  cases hf : (List.range n).find? (fun i => bad i != 0) with
  | none =>
    rw [List.find?_eq_none] at hf
    simpa using hf j (by simpa using hj)
  | some i =>
    rw [hf] at h
    have := List.find?_some hf
    simp only at h
    simp [h] at this
theorem machF_zeroA {gs : List Glob} {rs : List Rout} (h : (machF gs rs).1 = 0) : (globF gs).1 = 0 ∧ 0 < rs.length ∧ rs.length ≤ 40 ∧ ∀ j, j < rs.length → rBadAt gs rs j = 0 := by
  unfold machF at h
  split at h
  · rename_i h1
    exact absurd h h1
  split at h
  · cases h
  split at h
  · cases h
  · rename_i h1 h2 h3
    exact ⟨by simpa using h1, by omega, by omega, firstBad_zeroA h⟩
def GIn (gs : List Glob) : Prop := ∀ g ∈ gs, ∀ x ∈ g.init, I64 x
def globHead (g : Glob) : List UInt8 := [103, 108, 111, 98, 97, 108, 32] ++ g.name.data.toList ++ [32] ++ Lib.itoa g.size
def initTo (g : Glob) (k : Nat) : List UInt8 := ((g.init.take k).map fun n => 32 :: Lib.itoa n).flatten
def globL (g : Glob) : List UInt8 := globHead g ++ initTo g g.init.length ++ [10]
def namesL (rs : List Rout) : List (List UInt8) := rs.map fun r => r.name.data.toList
def routHead (r : Rout) : List UInt8 := [114, 111, 117, 116, 105, 110, 101, 32] ++ r.name.data.toList ++ [10]
def routL (rs : List Rout) (r : Rout) : List UInt8 := routHead r ++ textL (rtN (namesL rs)) (readL r.code).2
def globsTo (gs : List Glob) (k : Nat) : List UInt8 := ((gs.take k).map globL).flatten
def routsTo (rs : List Rout) (k : Nat) : List UInt8 := ((rs.take k).map (routL rs)).flatten
def apartL (gs : List Glob) (rs : List Rout) : List UInt8 := globsTo gs gs.length ++ routsTo rs rs.length
def apartF (gs : List Glob) (rs : List Rout) : List UInt8 := if (machF gs rs).1 = 0 then apartL gs rs else []
theorem initTo_zero (g : Glob) : initTo g 0 = [] := rfl
theorem initTo_succ {g : Glob} {k : Nat} {n : Int} (h : g.init[k]? = some n) : initTo g (k + 1) = initTo g k ++ (32 :: Lib.itoa n) := by
  unfold initTo
  rw [List.take_add_one, h]
  simp
theorem globsTo_succ {gs : List Glob} {k : Nat} {g : Glob} (h : gs[k]? = some g) : globsTo gs (k + 1) = globsTo gs k ++ globL g := by
  unfold globsTo
  rw [List.take_add_one, h]
  simp
theorem routsTo_succ {rs : List Rout} {k : Nat} {r : Rout} (h : rs[k]? = some r) : routsTo rs (k + 1) = routsTo rs k ++ routL rs r := by
  unfold routsTo
  rw [List.take_add_one, h]
  simp
theorem initTo_len {g : Glob} (h : ∀ x ∈ g.init, I64 x) : ∀ k, (initTo g k).length ≤ 21 * k
  | 0 => by simp [initTo_zero]
  | k + 1 => by
    have ih := initTo_len h k
    cases hk : g.init[k]? with
    | none =>
      have e : initTo g (k + 1) = initTo g k := by
        unfold initTo
        rw [List.take_add_one, hk]
        simp
      rw [e]
      omega
    | some n =>
      rw [initTo_succ hk, List.length_append, List.length_cons]
      have := itoa_len (h n (List.mem_of_getElem? hk))
      omega
/-- What an image that may run is. -/
structure ImgOk (gs : List Glob) (rs : List Rout) : Prop where
  gl : gs.length ≤ 10
  gname : ∀ g ∈ gs, g.name.size ≤ 12 ∧ I64 g.size ∧ g.init.length ≤ 200 ∧ ∀ x ∈ g.init, I64 x
  r0 : 0 < rs.length
  rl : rs.length ≤ 40
  rname : ∀ r ∈ rs, r.name.size ≤ 12
  code : ∀ r ∈ rs, (readL r.code).1 = (0, 0) ∧ (checkS (readL r.code).2).1 = 0 ∧ (∀ m ∈ (readL r.code).2, m.ok) ∧ ∀ m ∈ (readL r.code).2, m.op = 44 → m.n < (rs.length : Int)
theorem name_small {s : ByteArray} (h : nameS s = true) : s.size ≤ 12 := by
  unfold nameS at h
  rw [Bool.and_eq_true, decide_eq_true_eq] at h
  omega
theorem img_ok {gs : List Glob} {rs : List Rout} (h : (machF gs rs).1 = 0) (hgo : GOk gs) (hgi : GIn gs) (hro : ROk rs) : ImgOk gs rs := by
  obtain ⟨hg, h0, hl, hb⟩ := machF_zeroA h
  have hgl : gs.length ≤ 10 := by
    rcases Nat.lt_or_ge 10 gs.length with h' | h'
    · unfold globF at hg
      rw [if_pos h'] at hg
      cases hg
    · exact h'
  have hgb : ∀ j, j < gs.length → gBadAt gs j = 0 := by
    unfold globF at hg
    rw [if_neg (by omega)] at hg
    exact firstBad_zeroA hg
  refine ⟨hgl, fun g hm => ?_, h0, hl, fun r hm => ?_, fun r hm => ?_⟩
  · obtain ⟨j, hj⟩ := List.mem_iff_getElem?.1 hm
    have h1 := hgb j (List.getElem?_eq_some_iff.1 hj).1
    unfold gBadAt at h1
    rw [hj] at h1
    simp only [gBad] at h1
    split at h1
    · cases h1
    · rename_i hn
      split at h1
      · cases h1
      split at h1
      · cases h1
      rename_i hs
      split at h1
      · cases h1
      rename_i hi
      exact ⟨name_small (by simpa using hn), (hgo g hm).2, by omega, hgi g hm⟩
  · obtain ⟨j, hj⟩ := List.mem_iff_getElem?.1 hm
    have h1 := hb j (List.getElem?_eq_some_iff.1 hj).1
    unfold rBadAt at h1
    rw [hj] at h1
    simp only [rBad] at h1
    split at h1
    · cases h1
    · rename_i hn
      unfold rNameBad at hn
      simp only [Bool.or_eq_true, not_or, Bool.not_eq_true', Bool.not_eq_true] at hn
      exact name_small (by simpa using hn.1)
  · obtain ⟨j, hj⟩ := List.mem_iff_getElem?.1 hm
    have h1 := hb j (List.getElem?_eq_some_iff.1 hj).1
    unfold rBadAt at h1
    rw [hj] at h1
    simp only [rBad] at h1
    split at h1
    · cases h1
    split at h1
    · cases h1
    split at h1
    · cases h1
    rename_i hc
    split at h1
    · cases h1
    rename_i hf
    have hz : (readL r.code).1.1 = 0 := by simpa using hc
    obtain ⟨k1, k2, _, k4, _⟩ := readL_back (hro r hm).2 hz
    refine ⟨k1, k2, fun m hm' => fine_ok (k4 m hm'), fun m hm' hop => ?_⟩
    have hf' : ¬ ((readL r.code).2.any (farB rs.length)) = true := hf
    rw [List.any_eq_true] at hf'
    have : ¬ farB rs.length m = true := fun h' => hf' ⟨m, hm', h'⟩
    unfold farB at this
    rw [hop] at this
    simp at this
    exact this
theorem call_op {op : Int} (h : isOp op = true) (hk : shK op = 4) : op = 44 := by
  obtain ⟨h1, h2⟩ := (isOp_iff op).1 h
  by_cases hA : 5 ≤ op ∧ op ≤ 18
  · rw [(sh_two op hA).2.2.2] at hk; cases hk
  by_cases hB : 19 ≤ op ∧ op ≤ 32
  · rw [(sh_num op hB).2.2.2] at hk; cases hk
  by_cases hC : 40 ≤ op ∧ op ≤ 43
  · rw [(sh_jmp op hC).2.2.2] at hk; cases hk
  obtain rfl | rfl | rfl | rfl | rfl | rfl | rfl | rfl | rfl | rfl | rfl | rfl | rfl | rfl | rfl :
    op = 1 ∨ op = 2 ∨ op = 3 ∨ op = 4 ∨ op = 33 ∨ op = 34 ∨ op = 35 ∨ op = 36 ∨ op = 37 ∨ op = 38 ∨ op = 39 ∨ op = 44 ∨ op = 45 ∨ op = 46 ∨ op = 47 := by omega
  all_goals first | rfl | (exfalso; revert hk; decide)
section
variable {H : Type} {enc : TypeId × Value → H} {w : World} {fuel : Nat}
theorem glob_of_cells2 {cs : List Value} {x : DataW H × List MemPlace} (h : DataW.trod enc Tryd.prog w 0 (fun _ => true) true fuel 45 cs = some x) :
    ∃ (g : Glob) (iv : Value), cs = [.string g.name, .int .i64 g.size, iv] ∧ IntsAt w w.heap.size iv g.init ∧ g.name.size ≤ 9223372036854775807 ∧ I64 g.size ∧ ∀ x ∈ g.init, I64 x := by
  obtain ⟨ys, n, rfl, _, hl, hy, hf⟩ := DataW.trod_struct Tryd.underlying45 h
  have c3 : Tryd.prog.cellsOf 45 = 3 := by kernel_rfl
  rw [c3] at hl
  obtain ⟨v0, v1, v2, rfl⟩ := len3 hl
  obtain ⟨y0, y1, y2, rfl⟩ := len3 (hy.trans rfl)
  have g0 := hf 0 _ rfl
  have g1 := hf 1 _ rfl
  have g2 := hf 2 _ rfl
  change DataW.trod _ _ _ _ _ _ _ 9 (List.take (Tryd.prog.cellsOf 9) (List.drop 0 _)) = _ at g0
  change DataW.trod _ _ _ _ _ _ _ 3 (List.take (Tryd.prog.cellsOf 3) (List.drop 1 _)) = _ at g1
  change DataW.trod _ _ _ _ _ _ _ 43 (List.take (Tryd.prog.cellsOf 43) (List.drop 2 _)) = _ at g2
  rw [cStr] at g0
  rw [cInt] at g1
  rw [cInts] at g2
  simp only [List.getElem?_cons_zero, List.getElem?_cons_succ, List.drop_zero, List.drop_succ_cons, List.take_succ_cons, List.take_zero] at g0 g1 g2
  obtain ⟨s, e0, _, hs⟩ := DataW.trod_string Tryd.underlying9 g0
  obtain ⟨b1, e1, _, k1⟩ := DataW.trod_int Tryd.underlying3 g1
  obtain ⟨iv, xs, e2, hi, hix⟩ := ints_of_cells g2
  simp only [List.cons.injEq, and_true] at e0 e1 e2
  subst e0; subst e1; subst e2
  exact ⟨⟨s, b1, xs⟩, _, rfl, hi, by unfold maxLen at hs; simp only; omega, i64_of_wf k1, hix⟩
theorem globs_of_cells2 {cs : List Value} {x : DataW H × List MemPlace} (h : DataW.trod enc Tryd.prog w 0 (fun _ => true) true fuel 28 cs = some x) :
    ∃ v gs, cs = [v] ∧ GlobsAt w w.heap.size v gs ∧ GOk gs ∧ GIn gs := by
  have c3 : Tryd.prog.cellsOf 45 = 3 := by kernel_rfl
  rcases open_slice Tryd.underlying28 h with ⟨hcs, _⟩ | ⟨a, len, cap, m, n, D, Pl, hcs, _, hl, hm, hmm, _, hi⟩
  · exact ⟨_, [], hcs, ⟨none, 0, rfl, by simp, by omega, fun h => by simp at h⟩, fun m hm => (by cases hm), fun m hm => (by cases hm)⟩
  · simp only [if_true] at hmm
    have each : ∀ i, i < len → ∃ g : Glob, (g.name.size ≤ 9223372036854775807 ∧ I64 g.size ∧ ∀ x ∈ g.init, I64 x) ∧ ∃ iv, IntsAt w w.heap.size iv g.init ∧ ∀ j u, ([.string g.name, .int .i64 g.size, iv] : List Value)[j]? = some u → w.cell? ((a.add (i * 3)).add j) = some u := by
      intro i hil
      obtain ⟨cs', hc, ht⟩ := hi i (by omega)
      rw [c3] at hc
      obtain ⟨g, iv, rfl, hiv, h1, h2, h3⟩ := glob_of_cells2 ht
      obtain ⟨_, hcl, hat⟩ := World.cells?_some hc
      refine ⟨g, ⟨h1, h2, h3⟩, iv, hiv, fun j u hj => ?_⟩
      have hj3 : j < 3 := by
        rcases Nat.lt_or_ge j 3 with h | h
        · exact h
        · rw [List.getElem?_eq_none (by simpa using h)] at hj; cases hj
      rw [hat j hj3]
      exact hj
    obtain ⟨f, hfm⟩ := choose_lt (n := len) (p := fun i (g : Glob) => (g.name.size ≤ 9223372036854775807 ∧ I64 g.size ∧ ∀ x ∈ g.init, I64 x) ∧ ∃ iv, IntsAt w w.heap.size iv g.init ∧ ∀ j u, ([.string g.name, .int .i64 g.size, iv] : List Value)[j]? = some u → w.cell? ((a.add (i * 3)).add j) = some u) each
    refine ⟨_, (List.range len).map f, hcs, ⟨some a, cap, by simp, by simpa using hl, by unfold maxLen at hm; omega, fun hpos => ?_⟩, fun m hm' => ?_, fun m hm' => ?_⟩
    · simp only [List.length_map, List.length_range] at hpos
      obtain ⟨_, iv0, _, h0⟩ := hfm 0 hpos
      have h0 := h0 0 (.string (f 0).name) rfl
      have ha0 : (a.add (0 * 3)).add 0 = a := by simp [Addr.add]
      rw [ha0] at h0
      have hs := spot_none h0
      refine ⟨a.block, a.off, by rw [← hs], World.block_lt_of_cell? _ _ h0, fun k g hk => ?_⟩
      have hkl : k < len := by
        have := (List.getElem?_eq_some_iff.1 hk).1
        simpa using this
      have hkm : g = f k := by
        rw [List.getElem?_map, List.getElem?_range hkl] at hk
        simpa using hk.symm
      subst hkm
      have hadd : ∀ i j : Nat, (a.add (i * 3)).add j = ⟨a.block, a.off + i * 3 + j, none⟩ := by
        intro i j
        rw [hs]
        unfold Addr.add
        by_cases h1 : i * 3 = 0 <;> by_cases h2 : j = 0 <;> simp [h1, h2]
      obtain ⟨_, iv, hiv, hcell⟩ := hfm k hkl
      have hc := fun j u hj => (hadd k j) ▸ hcell j u hj
      exact ⟨iv, by simpa using hc 0 _ rfl, hc 1 _ rfl, hc 2 _ rfl, hiv⟩
    · obtain ⟨i, hi', rfl⟩ := List.mem_map.1 hm'
      exact ⟨(hfm i (by simpa using hi')).1.1, (hfm i (by simpa using hi')).1.2.1⟩
    · obtain ⟨i, hi', rfl⟩ := List.mem_map.1 hm'
      exact (hfm i (by simpa using hi')).1.2.2
/-- An image. -/
theorem img_of_cells2 {cs : List Value} {x : DataW H × List MemPlace} (h : DataW.trod enc Tryd.prog w 0 (fun _ => true) true fuel 31 cs = some x) :
    ∃ gv rv gs rs, cs = [gv, rv] ∧ GlobsAt w w.heap.size gv gs ∧ RoutsAt w w.heap.size rv rs ∧ GOk gs ∧ ROk rs ∧ GIn gs := by
  obtain ⟨ys, n, rfl, _, hl, hy, hf⟩ := DataW.trod_struct Tryd.underlying31 h
  have c3 : Tryd.prog.cellsOf 31 = 2 := by kernel_rfl
  have d0 : Tryd.prog.cellsOf 28 = 1 := by kernel_rfl
  have d1 : Tryd.prog.cellsOf 29 = 1 := by kernel_rfl
  rw [c3] at hl
  obtain ⟨v0, v1, rfl⟩ := len2 hl
  obtain ⟨y0, y1, rfl⟩ := len2 (hy.trans rfl)
  have g0 := hf 0 _ rfl
  have g1 := hf 1 _ rfl
  change DataW.trod _ _ _ _ _ _ _ 28 (List.take (Tryd.prog.cellsOf 28) (List.drop 0 _)) = _ at g0
  change DataW.trod _ _ _ _ _ _ _ 29 (List.take (Tryd.prog.cellsOf 29) (List.drop 1 _)) = _ at g1
  rw [d0] at g0
  rw [d1] at g1
  simp only [List.getElem?_cons_zero, List.getElem?_cons_succ, List.drop_zero, List.drop_succ_cons, List.take_succ_cons, List.take_zero] at g0 g1
  obtain ⟨gv, gs, e0, hg, hgo, hgi⟩ := globs_of_cells2 g0
  obtain ⟨rv, rs, e1, hr, hro⟩ := routs_of_cells g1
  simp only [List.cons.injEq, and_true] at e0 e1
  subst e0; subst e1
  exact ⟨_, _, gs, rs, rfl, hg, hr, hgo, hro, hgi⟩
end
end Go.Proofs.YtdldochhondifaaDoor
