/-
  PLAIN: what a unit without fault holds, and weights of registers.
  Conditions: none.
-/
import Derived.Test.YtgnkkgbjcodihaaDoorUnA
namespace Go.Proofs.YtgnkkgbjcodihaaDoor
open Go.RowKit

theorem mainF_zero {fs : List FunU} (h : (mainF fs).1 = 0) : mainF fs = (0, 0) := by
  unfold mainF at *
  split at h
  · cases h
  · split at h
    · cases h
    · rename_i h1; rw [if_neg h1]
theorem firstBad_pair {bad : Nat → Int} {n : Nat} (h : (firstBad bad n).1 = 0) : firstBad bad n = (0, 0) := firstBad_ok (firstBad_zero h)
structure UnitOk (gs : List Glob) (fs : List FunU) : Prop where
  globs : gs.length ≤ 10
  funs : fs.length ≤ 10
  heads : ∀ (i : Nat) (f : FunU), fs[i]? = some f → headE (gs.map Glob.name ++ (fs.take i).map FunU.name) f = 0
  bodies : ∀ (i : Nat) (f : FunU), fs[i]? = some f → bodyE (fs.map FunU.params) f = 0
  all : unitF gs fs = (0, 0)
theorem unit_ok {gs : List Glob} {fs : List FunU} (h : (unitF gs fs).1 = 0) : UnitOk gs fs := by
  have h0 := h
  unfold unitF at h
  split at h
  · cases h
  · rename_i h1
    split at h
    · rename_i h2; exact absurd h h2
    · rename_i h2
      split at h
      · rename_i h3; exact absurd h h3
      · rename_i h3
        split at h
        · rename_i h4; exact absurd h h4
        · rename_i h4
          refine ⟨by omega, by omega, fun i f hf => ?_, fun i f hf => ?_, ?_⟩
          · have := firstBad_zero (Classical.not_not.1 h3) i (List.getElem?_eq_some_iff.1 hf).1
            rwa [badOf_at hf] at this
          · have := firstBad_zero (Classical.not_not.1 h4) i (List.getElem?_eq_some_iff.1 hf).1
            rwa [badOf_at hf] at this
          · unfold unitF
            rw [if_neg h1, if_neg h2, if_neg h3, if_neg h4, mainF_zero h]
/-- What is a function's own. -/
structure HeadOk (f : FunU) : Prop where
  p0 : 0 ≤ f.params
  p1 : f.params ≤ 6
  r0 : f.params ≤ f.regs
  r1 : f.regs ≤ 100
  b0 : 1 ≤ f.blocks.length
  b1 : f.blocks.length ≤ 40
  many : manyU f.blocks ≤ 300
theorem head_ok {had : List ByteArray} {f : FunU} (h : headE had f = 0) : HeadOk f := by
  unfold headE at h
  split at h
  · cases h
  · split at h
    · cases h
    · split at h
      · cases h
      · rename_i h3
        split at h
        · cases h
        · rename_i h4
          constructor <;> omega
theorem val_ok {regs : Int} {v : Opd} (h : valE regs v = 0) (hr : v.reg = true) : 0 ≤ v.n ∧ v.n < regs := by
  unfold valE at h
  split at h
  · cases h
  · rename_i h1
    have h2 : inB v.n 0 (regs - 1) = true := by
      cases e : inB v.n 0 (regs - 1)
      · exact absurd ⟨hr, e⟩ h1
      · rfl
    unfold inB at h2
    rw [decide_eq_true_eq] at h2
    omega
theorem dst_ok {regs n : Int} (h : dstE regs n = 0) : 0 ≤ n ∧ n < regs := by
  unfold dstE at h
  split at h
  · cases h
  · rename_i h1
    have h2 : inB n 0 (regs - 1) = true := by
      cases e : inB n 0 (regs - 1)
      · exact absurd e h1
      · rfl
    unfold inB at h2
    rw [decide_eq_true_eq] at h2
    omega
structure InsOk (ps : List Int) (regs : Int) (x : InsU) : Prop where
  op : 1 ≤ x.op ∧ x.op ≤ 22
  dst : x.dst = -1 ∨ (hasD x.op = true ∧ 0 ≤ x.dst ∧ x.dst < regs)
  a : x.a.reg = true → 0 ≤ x.a.n ∧ x.a.n < regs
  b : x.b.reg = true → 0 ≤ x.b.n ∧ x.b.n < regs
  noA : hasA x.op = false → x.a = Opd.zero
  noB : hasB x.op = false → x.b = Opd.zero
  args : ∀ v ∈ x.args, v.reg = true → 0 ≤ v.n ∧ v.n < regs
  call : x.op = 20 → 0 ≤ x.fn ∧ x.fn < ps.length ∧ (x.args.length : Int) = ps.getD x.fn.toNat 0
  plain : x.op ≠ 20 → x.fn = 0 ∧ x.args = []
theorem ins_ok {ps : List Int} {regs : Int} {x : InsU} (h : insE ps regs x = 0) : InsOk ps regs x := by
  unfold insE at h
  split at h
  · cases h
  · rename_i h1
    have hop : 1 ≤ x.op ∧ x.op ≤ 22 := by
      cases e : inB x.op 1 22
      · exact absurd e h1
      · unfold inB at e; rw [decide_eq_true_eq] at e; exact e
    split at h
    · cases h
    · rename_i h2
      split at h
      · rename_i h3; exact absurd h h3.2.2
      · rename_i h3
        split at h
        · rename_i h4; exact absurd h h4
        · rename_i h4
          split at h
          · rename_i h5; exact absurd h h5
          · rename_i h5
            have hz : x.args.length = 0 → x.args = [] := List.eq_nil_of_length_eq_zero
            have hargs : x.op = 20 → (0 ≤ x.fn ∧ x.fn < ps.length) ∧ (x.args.length : Int) = ps.getD x.fn.toNat 0 ∧ firstE (fun _ v => valE regs v) x.args = 0 := by
              intro h20
              unfold argE at h
              rw [if_neg (by simpa using h20)] at h
              split at h
              · cases h
              · rename_i h6
                split at h
                · cases h
                · rename_i h7
                  have h8 : inB x.fn 0 ((ps.length : Int) - 1) = true := by
                    cases e : inB x.fn 0 ((ps.length : Int) - 1)
                    · exact absurd e h6
                    · rfl
                  unfold inB at h8
                  rw [decide_eq_true_eq] at h8
                  exact ⟨by omega, Classical.not_not.1 h7, h⟩
            have hno : x.op ≠ 20 → x.fn = 0 ∧ x.args = [] := fun hc => by
              refine ⟨?_, hz ?_⟩
              · exact Classical.byContradiction fun h' => h2 (.inr (.inr (.inr ⟨hc, .inl h'⟩)))
              · exact Classical.byContradiction fun h' => h2 (.inr (.inr (.inr ⟨hc, .inr (by omega)⟩)))
            refine ⟨hop, ?_, val_ok (Classical.not_not.1 h4), val_ok (Classical.not_not.1 h5), ?_, ?_, ?_, ?_, hno⟩
            · cases hd : hasD x.op
              · exact .inl (Classical.byContradiction fun h' => h2 (.inl ⟨hd, h'⟩))
              · by_cases hc : x.op = 20 ∧ x.dst = -1
                · exact .inl hc.2
                · by_cases h7 : dstE regs x.dst = 0
                  · exact .inr ⟨rfl, dst_ok h7⟩
                  · exact absurd ⟨hd, hc, h7⟩ h3
            · intro ha
              exact Classical.byContradiction fun h' => h2 (.inr (.inl ⟨ha, h'⟩))
            · intro hb
              exact Classical.byContradiction fun h' => h2 (.inr (.inr (.inl ⟨hb, h'⟩)))
            · intro v hv
              by_cases h20 : x.op = 20
              · obtain ⟨_, _, h8⟩ := hargs h20
                obtain ⟨k, hk⟩ := List.mem_iff_getElem?.1 hv
                exact val_ok (firstE_zero h8 hk)
              · rw [(hno h20).2] at hv; cases hv
            · intro h20
              obtain ⟨h8, h9, _⟩ := hargs h20
              exact ⟨h8.1, h8.2, h9⟩
structure EndOk (nb regs : Int) (b : BlkU) : Prop where
  kind : 1 ≤ b.kind ∧ b.kind ≤ 3
  size : b.to.length = waysU b.kind
  to : ∀ n ∈ b.to, 1 ≤ n ∧ n < nb
  on : b.on.reg = true → 0 ≤ b.on.n ∧ b.on.n < regs
theorem end_ok {nb regs : Int} {b : BlkU} (h : endE nb regs b = 0) : EndOk nb regs b := by
  unfold endE at h
  split at h
  · cases h
  · rename_i h1
    have hk : 1 ≤ b.kind ∧ b.kind ≤ 3 := by
      cases e : inB b.kind 1 3
      · exact absurd e h1
      · unfold inB at e; rw [decide_eq_true_eq] at e; exact e
    split at h
    · cases h
    · rename_i h2
      split at h
      · cases h
      · rename_i h3
        split at h
        · cases h
        · refine ⟨hk, Classical.not_not.1 h2, fun n hn => ?_, val_ok h⟩
          have h4 : (b.to.any fun n => !inB n 1 (nb - 1)) = false := by
            cases e : (b.to.any fun n => !inB n 1 (nb - 1))
            · rfl
            · exact absurd e h3
          rw [List.any_eq_false] at h4
          have := h4 n hn
          unfold inB at this
          simp only [Bool.not_eq_true', Bool.not_eq_false, decide_eq_true_eq] at this
          omega
structure BodyOk (ps : List Int) (f : FunU) : Prop where
  ends : ∀ b ∈ f.blocks, EndOk (f.blocks.length : Int) f.regs b
  phis : ∀ (i : Nat) (b : BlkU) (p : PhiU), f.blocks[i]? = some b → p ∈ b.phis → phiE f.regs (aheadU f.blocks) i p = 0
  list : ∀ b ∈ f.blocks, ∀ x ∈ b.list, InsOk ps f.regs x
theorem body_ok {ps : List Int} {f : FunU} (h : bodyE ps f = 0) : BodyOk ps f := by
  unfold bodyE at h
  split at h
  · rename_i h1; exact absurd h h1
  · rename_i h1
    have hb : ∀ (i : Nat) (b : BlkU), f.blocks[i]? = some b → blkE ps f.regs (aheadU f.blocks) i b = 0 := fun i b hi => firstE_zero h hi
    have hb2 : ∀ (i : Nat) (b : BlkU), f.blocks[i]? = some b → firstE (fun _ p => phiE f.regs (aheadU f.blocks) i p) b.phis = 0 ∧ firstE (fun _ x => insE ps f.regs x) b.list = 0 := by
      intro i b hi
      have := hb i b hi
      unfold blkE at this
      split at this
      · rename_i h2; exact absurd this h2
      · rename_i h2; exact ⟨Classical.not_not.1 h2, this⟩
    refine ⟨fun b hm => ?_, fun i b p hi hp => ?_, fun b hm x hx => ?_⟩
    · obtain ⟨k, hk⟩ := List.mem_iff_getElem?.1 hm
      exact end_ok (firstE_zero (Classical.not_not.1 h1) hk)
    · obtain ⟨k, hk⟩ := List.mem_iff_getElem?.1 hp
      exact firstE_zero (hb2 i b hi).1 hk
    · obtain ⟨k, hk⟩ := List.mem_iff_getElem?.1 hm
      obtain ⟨j, hj⟩ := List.mem_iff_getElem?.1 hx
      exact ins_ok (firstE_zero (hb2 k b hk).2 hj)
/-- What clash.Fault says. -/
def clashF (gs : List Glob) (fs : List FunU) (k : Int) : Int × Int :=
  if (unitF gs fs).1 ≠ 0 then unitF gs fs else if ¬ (0 ≤ k ∧ k < fs.length) then (3, -1)
  else if ((fs.getD k.toNat ⟨⟨#[]⟩, 0, 0, []⟩).blocks.any fun b => decide (0 < b.phis.length)) = true then (11, k) else (0, 0)
theorem clashF_zero {gs : List Glob} {fs : List FunU} {k : Int} (h : (clashF gs fs k).1 = 0) : clashF gs fs k = (0, 0) ∧ UnitOk gs fs ∧ ∃ f, fs[k.toNat]? = some f ∧ 0 ≤ k ∧ k < fs.length ∧ (∀ b ∈ f.blocks, b.phis = []) ∧ HeadOk f ∧ BodyOk (fs.map FunU.params) f := by
  unfold clashF at *
  split at h
  · rename_i h1; exact absurd h h1
  · rename_i h1
    split at h
    · cases h
    · rename_i h2
      split at h
      · cases h
      · rename_i h3
        rw [if_neg h1, if_neg h2, if_neg h3]
        have h2' := Classical.not_not.1 h2
        have hu := unit_ok (Classical.not_not.1 h1)
        obtain ⟨f, hf⟩ : ∃ f, fs[k.toNat]? = some f := ⟨fs[k.toNat]'(by omega), List.getElem?_eq_getElem _⟩
        refine ⟨rfl, hu, f, hf, h2'.1, h2'.2, fun b hb => ?_, head_ok (hu.heads _ _ hf), body_ok (hu.bodies _ _ hf)⟩
        rw [List.getD_eq_getElem?_getD, hf, Option.getD_some] at h3
        have h4 : (f.blocks.any fun b => decide (0 < b.phis.length)) = false := by
          cases e : (f.blocks.any fun b => decide (0 < b.phis.length))
          · rfl
          · exact absurd e h3
        rw [List.any_eq_false] at h4
        have := h4 b hb
        simp only [decide_eq_true_eq] at this
        exact List.eq_nil_of_length_eq_zero (by omega)
/-- Where registers stand. -/
def occV (v : Opd) : List Int := if v.reg then [v.n] else []
def occVs (vs : List Opd) : List Int := (vs.map occV).flatten
def occI (x : InsU) : List Int := (if 0 ≤ x.dst then [x.dst] else []) ++ occV x.a ++ occV x.b ++ occVs x.args
def occIs (xs : List InsU) : List Int := (xs.map occI).flatten
def occB (b : BlkU) : List Int := occIs b.list ++ occV b.on
def occBs (bs : List BlkU) : List Int := (bs.map occB).flatten
theorem occVs_snoc {vs : List Opd} {k : Nat} {v : Opd} (h : vs[k]? = some v) : occVs (vs.take (k + 1)) = occVs (vs.take k) ++ occV v := by
  have hlt := (List.getElem?_eq_some_iff.1 h).1
  unfold occVs
  rw [List.take_succ_eq_append_getElem hlt, (List.getElem?_eq_some_iff.1 h).2]
  simp
theorem occIs_snoc {vs : List InsU} {k : Nat} {v : InsU} (h : vs[k]? = some v) : occIs (vs.take (k + 1)) = occIs (vs.take k) ++ occI v := by
  have hlt := (List.getElem?_eq_some_iff.1 h).1
  unfold occIs
  rw [List.take_succ_eq_append_getElem hlt, (List.getElem?_eq_some_iff.1 h).2]
  simp
theorem occBs_snoc {vs : List BlkU} {k : Nat} {v : BlkU} (h : vs[k]? = some v) : occBs (vs.take (k + 1)) = occBs (vs.take k) ++ occB v := by
  have hlt := (List.getElem?_eq_some_iff.1 h).1
  unfold occBs
  rw [List.take_succ_eq_append_getElem hlt, (List.getElem?_eq_some_iff.1 h).2]
  simp
theorem occV_len (v : Opd) : (occV v).length ≤ 1 := by unfold occV; split <;> simp
theorem occVs_len (vs : List Opd) : (occVs vs).length ≤ vs.length := by
  induction vs with
  | nil => simp [occVs]
  | cons v vs ih =>
    have := occV_len v
    unfold occVs at *
    simp only [List.map_cons, List.flatten_cons, List.length_append, List.length_cons]
    omega
/-- How often each register stands in a list. -/
def tally (n : Nat) (l : List Int) : List Int := (List.range n).map fun (r : Nat) => ((l.count ((r : Nat) : Int) : Nat) : Int)
theorem tally_len (n : Nat) (l : List Int) : (tally n l).length = n := by simp [tally]
theorem tally_at {n : Nat} {l : List Int} {r : Nat} (h : r < n) : (tally n l)[r]? = some (l.count (r : Int) : Int) := by
  unfold tally
  rw [List.getElem?_map, List.getElem?_range h]
  rfl
theorem tally_nil (n : Nat) : tally n [] = List.replicate n 0 := by
  unfold tally
  simp [List.map_const']
theorem tally_snoc {n : Nat} {l : List Int} {r : Nat} (h : r < n) : (tally n l).set r ((l.count (r : Int) : Int) + 1) = tally n (l ++ [(r : Int)]) := by
  apply List.ext_getElem?
  intro j
  rcases Nat.lt_or_ge j n with hj | hj
  · rw [List.getElem?_set, tally_at hj, tally_at hj]
    have e : (l ++ [(r : Int)]).count (j : Int) = l.count (j : Int) + if r = j then 1 else 0 := by
      rw [List.count_append, List.count_singleton]
      by_cases hr : r = j
      · simp [hr]
      · have : ¬ (r : Int) = (j : Int) := by omega
        simp [hr, this]
    rw [e]
    by_cases hr : r = j
    · subst hr
      rw [if_pos rfl, if_pos (by rw [tally_len]; exact h), if_pos rfl]
      simp
    · rw [if_neg hr, if_neg hr]
      simp
  · rw [List.getElem?_eq_none (by rw [List.length_set, tally_len]; exact hj), List.getElem?_eq_none (by rw [tally_len]; exact hj)]
theorem sum_tally {n : Nat} {l : List Int} (h : ∀ x ∈ l, 0 ≤ x ∧ x < n) : (tally n l).sum = l.length := by
  induction l with
  | nil => rw [tally_nil]; simp
  | cons x l ih =>
    have ih := ih fun y hy => h y (List.mem_cons_of_mem _ hy)
    obtain ⟨h0, h1⟩ := h x (List.mem_cons_self ..)
    have key : ∀ m : Nat, (tally m (x :: l)).sum = (tally m l).sum + if x < m then 1 else 0 := by
      intro m
      induction m with
      | zero => simp [tally]; omega
      | succ m ihm =>
        have e : ∀ l' : List Int, (tally (m + 1) l').sum = (tally m l').sum + (l'.count (m : Int) : Int) := by
          intro l'
          unfold tally
          rw [List.range_succ, List.map_append, List.sum_append]
          simp
        rw [e, e, ihm, List.count_cons]
        by_cases hx : x = (m : Int)
        · subst hx
          simp
          omega
        · have hb : (x == (m : Int)) = false := by simpa using hx
          rw [hb]
          simp only [Bool.false_eq_true, if_false, Nat.add_zero]
          by_cases hx2 : x < (m : Int)
          · rw [if_pos hx2, if_pos (by omega)]; omega
          · rw [if_neg hx2, if_neg (by omega)]; omega
    rw [key n, ih, if_pos h1]
    simp
theorem occI_len (x : InsU) : (occI x).length ≤ 3 + x.args.length := by
  have h1 := occV_len x.a
  have h2 := occV_len x.b
  have h3 := occVs_len x.args
  unfold occI
  simp only [List.length_append]
  split <;> simp only [List.length_cons, List.length_nil] <;> omega
theorem occIs_len {xs : List InsU} (h : ∀ x ∈ xs, x.args.length ≤ 6) : (occIs xs).length ≤ xs.length * 9 := by
  induction xs with
  | nil => simp [occIs]
  | cons x xs ih =>
    have h1 := occI_len x
    have h2 := h x (List.mem_cons_self ..)
    have h3 := ih fun y hy => h y (List.mem_cons_of_mem _ hy)
    unfold occIs at *
    simp only [List.map_cons, List.flatten_cons, List.length_append, List.length_cons]
    omega
theorem occBs_len {bs : List BlkU} (h : ∀ b ∈ bs, ∀ x ∈ b.list, x.args.length ≤ 6) : (occBs bs).length ≤ manyU bs * 9 + bs.length := by
  induction bs with
  | nil => simp [occBs]
  | cons b bs ih =>
    have h1 := occIs_len (h b (List.mem_cons_self ..))
    have h2 := occV_len b.on
    have h3 := ih fun y hy => h y (List.mem_cons_of_mem _ hy)
    unfold occBs manyU at *
    simp only [List.map_cons, List.flatten_cons, List.length_append, List.length_cons, List.sum_cons, occB]
    omega
theorem args_few {gs : List Glob} {fs : List FunU} {f : FunU} {i : Nat} (hu : UnitOk gs fs) (hf : fs[i]? = some f) : ∀ b ∈ f.blocks, ∀ x ∈ b.list, x.args.length ≤ 6 := by
  intro b hb x hx
  have hx := (body_ok (hu.bodies _ _ hf)).list b hb x hx
  by_cases h20 : x.op = 20
  · obtain ⟨h0, h1, h2⟩ := hx.call h20
    rw [List.length_map] at h1
    obtain ⟨g, hg⟩ : ∃ g, fs[x.fn.toNat]? = some g := ⟨fs[x.fn.toNat]'(by omega), List.getElem?_eq_getElem _⟩
    have := (head_ok (hu.heads _ _ hg)).p1
    rw [List.getD_eq_getElem?_getD, List.getElem?_map, hg] at h2
    simp only [Option.map_some, Option.getD_some] at h2
    omega
  · rw [(hx.plain h20).2]
    simp
theorem occ_few {gs : List Glob} {fs : List FunU} {f : FunU} {i : Nat} (hu : UnitOk gs fs) (hf : fs[i]? = some f) : (occBs f.blocks).length ≤ 2740 := by
  have h1 := occBs_len (args_few hu hf)
  have h2 := head_ok (hu.heads _ _ hf)
  have := h2.many
  have := h2.b1
  omega
theorem occ_in {gs : List Glob} {fs : List FunU} {f : FunU} {i : Nat} (hu : UnitOk gs fs) (hf : fs[i]? = some f) : ∀ x ∈ occBs f.blocks, 0 ≤ x ∧ x < f.regs := by
  intro x hx
  have hb := body_ok (hu.bodies _ _ hf)
  have hv : ∀ v : Opd, (v.reg = true → 0 ≤ v.n ∧ v.n < f.regs) → ∀ y ∈ occV v, 0 ≤ y ∧ y < f.regs := by
    intro v h y hy
    unfold occV at hy
    split at hy
    · rename_i hr
      simp only [List.mem_cons, List.not_mem_nil, or_false] at hy
      subst hy
      exact h hr
    · cases hy
  unfold occBs at hx
  obtain ⟨l, hl, hxl⟩ := List.mem_flatten.1 hx
  obtain ⟨b, hbm, rfl⟩ := List.mem_map.1 hl
  unfold occB at hxl
  rcases List.mem_append.1 hxl with h | h
  · unfold occIs at h
    obtain ⟨l', hl', hxl'⟩ := List.mem_flatten.1 h
    obtain ⟨y, hy, rfl⟩ := List.mem_map.1 hl'
    have ho := hb.list b hbm y hy
    unfold occI at hxl'
    rcases List.mem_append.1 hxl' with h' | h'
    · rcases List.mem_append.1 h' with h' | h'
      · rcases List.mem_append.1 h' with h' | h'
        · split at h'
          · simp only [List.mem_cons, List.not_mem_nil, or_false] at h'
            subst h'
            rcases ho.dst with h0 | h0
            · omega
            · exact h0.2
          · cases h'
        · exact hv _ ho.a x h'
      · exact hv _ ho.b x h'
    · unfold occVs at h'
      obtain ⟨l2, hl2, hx2⟩ := List.mem_flatten.1 h'
      obtain ⟨v, hvm, rfl⟩ := List.mem_map.1 hl2
      exact hv _ (ho.args v hvm) x hx2
  · exact hv _ (hb.ends b hbm).on x h
end Go.Proofs.YtgnkkgbjcodihaaDoor
