/-
  Chains of copies, and crowds of numbers: their clashes, and what their places come to.
  Conditions: as the theorems say.
-/
import Derived.Test.YtkkllflbepcimaaDoorCoN
namespace Go.Proofs.YtkkllflbepcimaaDoor
open Go.RowKit

def readI (i : Nat) : InsU := ⟨21, (i : Int), Opd.zero, Opd.zero, 0, []⟩
def copyI (i : Nat) : InsU := ⟨1, (i : Int) + 1, ⟨true, (i : Int)⟩, Opd.zero, 0, []⟩
def printI (i : Nat) : InsU := ⟨22, -1, ⟨true, (i : Int)⟩, Opd.zero, 0, []⟩
/-- A number is read, and copied so many times. -/
def chainL (n : Nat) : List InsU := readI 0 :: (List.range n).map copyI
def chainB (n : Nat) : BlkU := ⟨[], chainL n, 1, ⟨true, (n : Int)⟩, []⟩
def chainF (n : Nat) : FunU := ⟨mainName, 0, (n : Int) + 1, [chainB n]⟩
/-- So many numbers are read, and then printed. -/
def crowdL (n : Nat) : List InsU := (List.range n).map readI ++ (List.range n).map printI
def crowdB (n : Nat) : BlkU := ⟨[], crowdL n, 1, Opd.zero, []⟩
def crowdF (n : Nat) : FunU := ⟨mainName, 0, (n : Int), [crowdB n]⟩
theorem chain_units : ((List.range 21).all fun n => unitF [] [chainF n] == (0, 0)) = true := by kernel_rfl
theorem crowd_units : ((List.range 21).all fun n => unitF [] [crowdF n] == (0, 0)) = true := by kernel_rfl
theorem chain_weights : ((List.range 21).all fun n => (List.range (n + 1)).all fun r => decide (0 < (weightsF [] [chainF n] 0).getD r 0)) = true := by kernel_rfl
theorem crowd_weights : ((List.range 21).all fun n => (List.range n).all fun r => decide (0 < (weightsF [] [crowdF n] 0).getD r 0)) = true := by kernel_rfl
theorem chain_unit {n : Nat} (h : n ≤ 20) : unitF [] [chainF n] = (0, 0) := by
  have := List.all_eq_true.1 chain_units n (List.mem_range.2 (by omega))
  simpa using this
theorem crowd_unit {n : Nat} (h : n ≤ 20) : unitF [] [crowdF n] = (0, 0) := by
  have := List.all_eq_true.1 crowd_units n (List.mem_range.2 (by omega))
  simpa using this
theorem one_clash {f : FunU} {b : BlkU} (h : unitF [] [f] = (0, 0)) (hb : f.blocks = [b]) (hp : b.phis = []) : clashF [] [f] 0 = (0, 0) := by
  unfold clashF
  rw [if_neg (by rw [h]; simp), if_neg (by simp), if_neg]
  simp [hb, hp]
theorem present_all {ws bg : List Int} {n : Nat} (h : ∀ r : Nat, r < n → 0 < ws.getD r 0) {r : Int} (h0 : 0 ≤ r) (h1 : r < (n : Int)) : r ∈ presentL ws bg n := by
  refine presentL_mem.2 ⟨⟨h0, h1⟩, ?_⟩
  unfold presentB
  rw [decide_eq_true (h r.toNat (by omega))]
  rfl
theorem one_rows {f : FunU} {b : BlkU} (hu : unitF [] [f] = (0, 0)) (hb : f.blocks = [b]) (hp : b.phis = []) : ofF [] [f] 0 = ofRows f := by
  unfold ofF
  rw [one_clash hu hb hp]
  rfl
/-- Clashes of a function of one block that leads nowhere. -/
theorem ofS_alone {b : BlkU} (h : b.to = []) (x y : Int) : ofS [b] x y = true ↔ x ≠ y ∧ ((upTo b.list (onS b) x = true ∧ upTo b.list (onS b) y = true) ∨ ∃ (j : Nat) (i : InsU), b.list[j]? = some i ∧
    (evC (i, upTo (b.list.drop (j + 1)) (onS b)) x y = true ∨ evC (i, upTo (b.list.drop (j + 1)) (onS b)) y x = true)) := by
  unfold ofS clashS beginS
  rw [inU_one h, inU_one h]
  have hm := fun e => evAll_mem [b] e
  have hone : ∀ e, e ∈ evAll [b] [b].length ↔ ∃ (j : Nat) (i : InsU), b.list[j]? = some i ∧ e = (i, upTo (b.list.drop (j + 1)) (onS b)) := fun e => by
    rw [hm]
    constructor
    · rintro ⟨k, j, b', i, h1, h2, h3⟩
      have hk : k = 0 := by have := (List.getElem?_eq_some_iff.1 h1).1; simp at this; exact this
      subst hk
      obtain rfl : b = b' := Option.some.inj h1
      exact ⟨j, i, h2, by rw [h3, end_none h]⟩
    · rintro ⟨j, i, h2, h3⟩
      exact ⟨0, j, b, i, rfl, h2, by rw [h3, end_none h]⟩
  simp only [Bool.or_eq_true, Bool.and_eq_true, decide_eq_true_eq, List.any_eq_true]
  constructor
  · rintro (⟨h1, h2⟩ | ⟨h1, e, he, h2⟩)
    · exact ⟨h1, .inl h2⟩
    · obtain ⟨j, i, h3, rfl⟩ := (hone e).1 he
      exact ⟨h1, .inr ⟨j, i, h3, h2⟩⟩
  · rintro ⟨h1, h2 | ⟨j, i, h3, h2⟩⟩
    · exact .inl ⟨h1, h2⟩
    · exact .inr ⟨h1, _, (hone _).2 ⟨j, i, h3, rfl⟩, h2⟩
theorem evC_true {x : InsU} {T : Int → Bool} {a b : Int} (h : evC (x, T) a b = true) : x.dst = a ∧ T b = true ∧ 0 ≤ x.dst := by
  unfold evC at h
  simp only [Bool.and_eq_true, decide_eq_true_eq] at h
  exact ⟨h.2.1, h.2.2.1, h.1⟩
theorem range_map_drop {α : Type} (n j : Nat) (g : Nat → α) (h : j < n) : ((List.range n).map g).drop j = g j :: ((List.range n).map g).drop (j + 1) := by
  rw [List.drop_eq_getElem_cons (by simpa using h)]
  simp
theorem upTo_cons (x : InsU) (xs : List InsU) (S : Int → Bool) (r : Int) : upTo (x :: xs) S r = (takesU x r || (upTo xs S r && decide (x.dst ≠ r))) := rfl
theorem takes_copy (i : Nat) (r : Int) : takesU (copyI i) r = decide (r = (i : Int)) := by
  unfold takesU copyI occV occVs Opd.zero
  simp
theorem takes_read (i : Nat) (r : Int) : takesU (readI i) r = false := by
  unfold takesU readI occV occVs Opd.zero
  simp
theorem takes_print (i : Nat) (r : Int) : takesU (printI i) r = decide (r = (i : Int)) := by
  unfold takesU printI occV occVs Opd.zero
  simp
theorem onS_chain (n : Nat) (r : Int) : onS (chainB n) r = decide (r = (n : Int)) := by
  unfold onS chainB occV
  simp
theorem onS_crowd (n : Nat) (r : Int) : onS (crowdB n) r = false := by
  unfold onS crowdB occV Opd.zero
  simp
/-- Behind a copy just what it made is live. -/
theorem chain_live (n : Nat) : ∀ (k j : Nat), j + k = n → ∀ r, upTo (((List.range n).map copyI).drop j) (onS (chainB n)) r = decide (r = (j : Int))
  | 0, j, h, r => by
    rw [List.drop_eq_nil_of_le (by simp; omega)]
    show onS (chainB n) r = _
    rw [onS_chain, show n = j by omega]
  | k + 1, j, h, r => by
    rw [range_map_drop n j copyI (by omega), upTo_cons, chain_live n k (j + 1) (by omega) r, takes_copy]
    by_cases e : r = (j : Int)
    · simp [e]
    · simp only [e, decide_false, Bool.false_or]
      by_cases e2 : r = ((j + 1 : Nat) : Int)
      · have : ¬ (copyI j).dst ≠ r := by
          rw [e2]
          show ¬ ((j : Int) + 1 ≠ ((j + 1 : Nat) : Int))
          omega
        simp [this]
      · rw [decide_eq_false e2]
        rfl
theorem chain_none (n : Nat) (x y : Int) : ofS [chainB n] x y = false := by
  rw [← Bool.not_eq_true, ofS_alone rfl]
  rintro ⟨hne, h | ⟨j, i, hj, h⟩⟩
  · have h1 := h.1
    show False
    change upTo (readI 0 :: (List.range n).map copyI) (onS (chainB n)) x = true at h1
    rw [upTo_cons, takes_read] at h1
    have hl := chain_live n n 0 (by omega) x
    rw [List.drop_zero] at hl
    rw [hl] at h1
    simp only [Bool.false_or, Bool.and_eq_true, decide_eq_true_eq] at h1
    exact h1.2 (by show (((0 : Nat) : Int)) = x; omega)
  · have hl : ∀ r, upTo ((chainB n).list.drop (j + 1)) (onS (chainB n)) r = decide (r = (j : Int)) := fun r => by
      have hlt : j < n + 1 := by
        have := (List.getElem?_eq_some_iff.1 hj).1
        simpa [chainB, chainL] using this
      exact chain_live n (n - j) j (by omega) r
    have hd : i.dst = (j : Int) := by
      cases j with
      | zero =>
        obtain rfl : readI 0 = i := by simpa [chainB, chainL] using hj
        rfl
      | succ j =>
        have h2 : ((List.range n).map copyI)[j]? = some i := by simpa [chainB, chainL] using hj
        rw [List.getElem?_map] at h2
        have hlt : j < n := by
          apply Classical.byContradiction
          intro hn
          rw [List.getElem?_eq_none (by simpa using hn)] at h2
          cases h2
        rw [List.getElem?_range hlt] at h2
        obtain rfl : copyI j = i := by simpa using h2
        show (j : Int) + 1 = ((j + 1 : Nat) : Int)
        omega
    rcases h with h | h
    · obtain ⟨h1, h2, _⟩ := evC_true h
      rw [hl, decide_eq_true_eq] at h2
      omega
    · obtain ⟨h1, h2, _⟩ := evC_true h
      rw [hl, decide_eq_true_eq] at h2
      omega
theorem prints_live (n : Nat) (S : Int → Bool) (hS : ∀ r, S r = false) : ∀ (k j : Nat), j + k = n → ∀ r, upTo (((List.range n).map printI).drop j) S r = decide ((j : Int) ≤ r ∧ r < (n : Int))
  | 0, j, h, r => by
    rw [List.drop_eq_nil_of_le (by simp; omega)]
    show S r = _
    rw [hS, eq_comm, decide_eq_false_iff_not]
    omega
  | k + 1, j, h, r => by
    rw [range_map_drop n j printI (by omega), upTo_cons, prints_live n S hS k (j + 1) (by omega) r, takes_print]
    rw [Bool.eq_iff_iff]
    simp only [Bool.or_eq_true, Bool.and_eq_true, decide_eq_true_eq]
    have : (printI j).dst = -1 := rfl
    rw [this]
    omega
theorem upTo_app (xs ys : List InsU) (S : Int → Bool) (r : Int) : upTo (xs ++ ys) S r = upTo xs (upTo ys S) r := by
  induction xs generalizing r with
  | nil => rfl
  | cons x xs ih => rw [List.cons_append, upTo_cons, upTo_cons, ih]
theorem reads_live (n : Nat) (S : Int → Bool) : ∀ (k j : Nat), j + k = n → ∀ r, upTo (((List.range n).map readI).drop j) S r = (S r && decide (r < (j : Int) ∨ (n : Int) ≤ r))
  | 0, j, h, r => by
    rw [List.drop_eq_nil_of_le (by simp; omega)]
    show S r = _
    rw [decide_eq_true (by omega), Bool.and_true]
  | k + 1, j, h, r => by
    rw [range_map_drop n j readI (by omega), upTo_cons, reads_live n S k (j + 1) (by omega) r, takes_read, Bool.false_or, Bool.and_assoc]
    congr 1
    rw [Bool.eq_iff_iff]
    simp only [Bool.and_eq_true, decide_eq_true_eq]
    have : (readI j).dst = (j : Int) := rfl
    rw [this]
    omega
/-- Numbers of a crowd clash, each with each. -/
theorem crowd_all {n : Nat} {x y : Int} (hx : 0 ≤ x) (hxy : x < y) (hy : y < (n : Int)) : ofS [crowdB n] x y = true := by
  rw [ofS_alone rfl]
  refine ⟨by omega, .inr ⟨y.toNat, readI y.toNat, ?_, .inr ?_⟩⟩
  · show ((List.range n).map readI ++ (List.range n).map printI)[y.toNat]? = _
    rw [List.getElem?_append_left (by simp; omega), List.getElem?_map, List.getElem?_range (by omega)]
    rfl
  · have hl : upTo ((crowdB n).list.drop (y.toNat + 1)) (onS (crowdB n)) x = true := by
      show upTo (((List.range n).map readI ++ (List.range n).map printI).drop (y.toNat + 1)) (onS (crowdB n)) x = true
      rw [List.drop_append_of_le_length (by simp; omega), upTo_app]
      rw [reads_live n _ (n - (y.toNat + 1)) (y.toNat + 1) (by omega)]
      have hp := prints_live n (onS (crowdB n)) (onS_crowd n) n 0 (by omega) x
      rw [List.drop_zero] at hp
      rw [hp]
      simp only [Bool.and_eq_true, decide_eq_true_eq]
      omega
    unfold evC asksC
    dsimp only
    rw [hl]
    have h1 : (readI y.toNat).dst = y := by show ((y.toNat : Nat) : Int) = y; omega
    have h2 : (readI y.toNat).op = 21 := rfl
    simp only [h1, h2]
    simp
    omega
/-- Nobody lives across a call where none is. -/
theorem no_calls {f : FunU} {b : BlkU} (hu : unitF [] [f] = (0, 0)) (hb : f.blocks = [b]) (hp : b.phis = []) (hc : ∀ i ∈ b.list, i.op ≠ 20) : acrossF [] [f] 0 = [] := by
  unfold acrossF
  rw [one_clash hu hb hp]
  show listS f.regs.toNat (acrossS (evAll f.blocks f.blocks.length)) = []
  rw [hb, List.eq_nil_iff_forall_not_mem]
  intro r hr
  rw [listS_mem] at hr
  have h := hr.2.2
  unfold acrossS at h
  obtain ⟨e, he, h2⟩ := List.any_eq_true.1 h
  obtain ⟨k, j, b', i, h1, h3, rfl⟩ := (evAll_mem [b] e).1 he
  have hk : k = 0 := by have := (List.getElem?_eq_some_iff.1 h1).1; simp at this; exact this
  subst hk
  obtain rfl : b = b' := Option.some.inj h1
  simp only [Bool.and_eq_true, decide_eq_true_eq] at h2
  exact hc i (List.mem_of_getElem? h3) h2.1
theorem giv_zero {m : Nat} (h : 2 ≤ m) : givenS m = 0 :: (givenS m).drop 1 := by
  have : 1 ≤ lowN m := by unfold lowN; omega
  unfold givenS
  obtain ⟨k, hk⟩ : ∃ k, lowN m = k + 1 := ⟨lowN m - 1, by omega⟩
  rw [hk, List.range_succ_eq_map]
  simp
theorem giv_len {m : Nat} : (givenS m).length = m := by
  have : lowN m ≤ m := by unfold lowN; omega
  unfold givenS
  simp
  omega
theorem giv_nodup (m : Nat) : (givenS m).Nodup := by
  unfold givenS
  have hl : lowN m ≤ 6 := by unfold lowN; omega
  rw [List.nodup_append]
  refine ⟨?_, ?_, ?_⟩
  · rw [List.Nodup, List.pairwise_map]
    exact (List.nodup_range (n := lowN m)).imp fun h e => h (by omega)
  · rw [List.Nodup, List.pairwise_map]
    exact (List.nodup_range (n := m - lowN m)).imp fun h e => h (by omega)
  · intro a ha b hb
    obtain ⟨i, hi, rfl⟩ := List.mem_map.1 ha
    obtain ⟨j, hj, rfl⟩ := List.mem_map.1 hb
    have := List.mem_range.1 hi
    omega
/-- A chain's places: all the first one. -/
theorem chain_places {n m : Nat} (hn : n ≤ 20) (h1 : 2 ≤ m) (h2 : m ≤ 14) {bg ps : List Int} (h : Coloured (chainF n) (ofF [] [chainF n] 0) (acrossF [] [chainF n] 0) (givenS m) (weightsF [] [chainF n] 0) bg (n + 1) ps) :
    ps.length = n + 1 ∧ ∀ i : Nat, i ≤ n → ps[i]? = some 0 := by
  obtain ⟨order, hp, rfl⟩ := h
  have hu := chain_unit hn
  have hrow : ∀ r, rowAt (ofF [] [chainF n] 0) r = [] := fun r => by
    rw [one_rows hu rfl rfl]
    unfold rowAt ofRows
    rw [List.getD_eq_getElem?_getD, List.getElem?_map]
    cases h : (List.range (chainF n).regs.toNat)[r.toNat]? with
    | none => rfl
    | some a =>
      simp only [Option.map_some, Option.getD_some]
      rw [List.eq_nil_iff_forall_not_mem]
      intro x hx
      rw [listS_mem] at hx
      have := hx.2.2
      rw [show (chainF n).blocks = [chainB n] from rfl, chain_none] at this
      cases this
  have hac : acrossF [] [chainF n] 0 = [] := no_calls hu rfl rfl (fun i hi => by
    rcases List.mem_cons.1 hi with rfl | hi
    · decide
    · obtain ⟨k, _, rfl⟩ := List.mem_map.1 hi
      show (1 : Int) ≠ 20
      decide)
  rw [hac]
  have hord : ∀ r ∈ order, 0 ≤ r ∧ r < ((n + 1 : Nat) : Int) := fun r hr => (presentL_mem.1 (hp.mem_iff.1 hr)).1
  have hw : ∀ r : Nat, r < n + 1 → 0 < (weightsF [] [chainF n] 0).getD r 0 := fun r hr => by
    have := List.all_eq_true.1 (List.all_eq_true.1 chain_weights n (List.mem_range.2 (by omega))) r (List.mem_range.2 hr)
    simpa using this
  have key := merged_all (n := n + 1) (rows := ofF [] [chainF n] 0) (giv := givenS m) (wf := fun ps r => wishesL (chainF n) (givenS m) ps r) (c := 0) hrow (by rw [giv_zero h1]; exact List.mem_cons_self ..)
    (fun hm => by have := (givenS_range h2 hm).1; omega) (fun ps r hr0 hps => by
      refine ⟨wishBs ps r (chainF n).blocks ++ wishT (chainF n) r, (givenS m).drop 1, ?_, fun x hx => ?_⟩
      · unfold wishesL
        rw [← giv_zero h1]
      · rcases List.mem_append.1 hx with hx | hx
        · unfold wishBs wishIs at hx
          obtain ⟨l, hl, hx⟩ := List.mem_flatten.1 hx
          obtain ⟨b, hb, rfl⟩ := List.mem_map.1 hl
          obtain ⟨l2, hl2, hx⟩ := List.mem_flatten.1 hx
          obtain ⟨i, hi, rfl⟩ := List.mem_map.1 hl2
          have hget : ∀ k : Nat, ps.getD k 0 = -1 ∨ ps.getD k 0 = 0 := fun k => by
            rw [List.getD_eq_getElem?_getD]
            cases hk : ps[k]? with
            | none => exact .inr rfl
            | some v => exact hps v (List.mem_of_getElem? hk)
          unfold wishI at hx
          split at hx
          · rcases List.mem_append.1 hx with hx | hx
            · split at hx
              · rw [List.mem_singleton.1 hx]; exact hget _
              · cases hx
            · split at hx
              · rw [List.mem_singleton.1 hx]; exact hget _
              · cases hx
          · cases hx
        · unfold wishT at hx
          have hlt : ¬ r < (chainF n).params := by show ¬ r < 0; omega
          rw [if_neg hlt] at hx
          cases hx) order hord
  have hlen : (colS (fun ps r => wishesL (chainF n) (givenS m) ps r) (ofF [] [chainF n] 0) [] (givenS m) (List.replicate (n + 1) (-1)) order).length = n + 1 := by rw [colS_len, List.length_replicate]
  refine ⟨hlen, fun i hi => ?_⟩
  have hm : (i : Int) ∈ order := hp.mem_iff.2 (present_all hw (by omega) (by omega))
  have := key.2 (i : Int) hm
  unfold plAt at this
  rw [Int.toNat_natCast, List.getD_eq_getElem?_getD, List.getElem?_eq_getElem (by rw [hlen]; omega)] at this
  rw [List.getElem?_eq_getElem (by rw [hlen]; omega)]
  simpa using this
theorem crowd_places {n m : Nat} (hn : n ≤ 20) (h2 : m ≤ 14) {bg ps : List Int} (h : Coloured (crowdF n) (ofF [] [crowdF n] 0) (acrossF [] [crowdF n] 0) (givenS m) (weightsF [] [crowdF n] 0) bg n ps) :
    ps.length = n ∧ (∀ (i j : Nat) (x y : Int), i < j → ps[i]? = some x → ps[j]? = some y → x ≠ y) ∧ (ps.filter fun x => decide (16 ≤ x)).length = if n ≤ m then 0 else n - m := by
  have hu := crowd_unit hn
  have hac : acrossF [] [crowdF n] 0 = [] := no_calls hu rfl rfl (fun i hi => by
    rcases List.mem_append.1 hi with hi | hi
    · obtain ⟨k, _, rfl⟩ := List.mem_map.1 hi
      show (21 : Int) ≠ 20
      decide
    · obtain ⟨k, _, rfl⟩ := List.mem_map.1 hi
      show (22 : Int) ≠ 20
      decide)
  have hof := one_rows hu rfl rfl
  have hnr : (crowdF n).regs.toNat = n := by show ((n : Nat) : Int).toNat = n; omega
  have hT := turns_of (crowdF n)
  rw [hnr, ← hof] at hT
  have hP := h.painted hT h2
  rw [hac] at hP
  have hw : ∀ r : Nat, r < n → 0 < (weightsF [] [crowdF n] 0).getD r 0 := fun r hr => by
    have := List.all_eq_true.1 (List.all_eq_true.1 crowd_weights n (List.mem_range.2 (by omega))) r (List.mem_range.2 hr)
    simpa using this
  have hpr : ∀ r : Nat, r < n → (r : Int) ∈ presentL (weightsF [] [crowdF n] 0) bg n := fun r hr => present_all hw (by omega) (by omega)
  have hrow : ∀ a b : Nat, a < n → b < n → a < b → (b : Int) ∈ rowAt (ofF [] [crowdF n] 0) (a : Int) := fun a b ha hb hab => by
    rw [hof, rowAt_of (by omega) (by rw [hnr]; omega), listS_mem, hnr]
    exact ⟨by omega, by omega, crowd_all (n := n) (by omega) (by omega) (by omega)⟩
  have hd : ∀ (i j : Nat) (x y : Int), i < j → ps[i]? = some x → ps[j]? = some y → x ≠ y := fun i j x y hij hx hy => by
    have hj := (List.getElem?_eq_some_iff.1 hy).1
    have hl := hP.len
    have := hP.apart (i : Int) (hpr i (by omega)) (j : Int) (hrow i j (by omega) (by omega) hij)
    rw [plAt_of hx, plAt_of hy] at this
    exact fun e => this e.symm
  refine ⟨hP.len, hd, ?_⟩
  have hnd : ps.Nodup := by
    rw [List.Nodup, List.pairwise_iff_getElem]
    intro i j hi hj hij
    exact hd i j _ _ hij (List.getElem?_eq_getElem hi) (List.getElem?_eq_getElem hj)
  have hsum : (ps.filter fun x => decide (16 ≤ x)).length + (ps.filter fun x => !decide (16 ≤ x)).length = n := by
    rw [← hP.len, ← List.countP_eq_length_filter, ← List.countP_eq_length_filter]
    have e := (List.length_eq_countP_add_countP (fun x => decide (16 ≤ x)) (l := ps)).symm
    have e2 : (fun a : Int => decide ¬decide (16 ≤ a) = true) = fun x => !decide (16 ≤ x) := by
      funext a
      cases decide (16 ≤ a) <;> rfl
    rwa [e2] at e
  have hin : ∀ x ∈ ps.filter (fun x => !decide (16 ≤ x)), x ∈ givenS m := fun x hx => by
    obtain ⟨hx1, hx2⟩ := List.mem_filter.1 hx
    obtain ⟨r, hr⟩ := List.mem_iff_getElem?.1 hx1
    have hl := (List.getElem?_eq_some_iff.1 hr).1
    rw [hP.len] at hl
    have hg := hP.got (r : Int) (hpr r hl)
    rw [plAt_of hr] at hg
    rcases hg with hg | hg
    · exact hg.1
    · rw [decide_eq_true hg] at hx2
      cases hx2
  have hle : (ps.filter fun x => !decide (16 ≤ x)).length ≤ m := by
    have := nodupLen (l := ps.filter fun x => !decide (16 ≤ x)) (m := givenS m) (List.Pairwise.filter _ hnd) hin
    rwa [giv_len] at this
  have hge : 0 < (ps.filter fun x => decide (16 ≤ x)).length → m ≤ (ps.filter fun x => !decide (16 ≤ x)).length := fun h0 => by
    obtain ⟨x, hx⟩ := List.exists_mem_of_length_pos h0
    obtain ⟨hx1, hx2⟩ := List.mem_filter.1 hx
    rw [decide_eq_true_eq] at hx2
    obtain ⟨r, hr⟩ := List.mem_iff_getElem?.1 hx1
    have hl := (List.getElem?_eq_some_iff.1 hr).1
    rw [hP.len] at hl
    have hn := hP.need (r : Int) (hpr r hl) (by rw [plAt_of hr]; exact hx2)
    have := nodupLen (l := givenS m) (m := ps.filter fun x => !decide (16 ≤ x)) (giv_nodup m) (fun g hg => by
      obtain ⟨o, ho, he⟩ := hn.1 g hg (.inr (by simp))
      obtain ⟨ho0, ho1⟩ := hT.range (r : Int) (by omega) (by omega) o ho
      refine List.mem_filter.2 ⟨?_, by have := (givenS_range h2 hg).2; simp; omega⟩
      unfold plAt at he
      rw [List.getD_eq_getElem?_getD, List.getElem?_eq_getElem (by rw [hP.len]; omega)] at he
      rw [← he]
      exact List.getElem_mem _)
    rwa [giv_len] at this
  split
  · omega
  · omega
end Go.Proofs.YtkkllflbepcimaaDoor
