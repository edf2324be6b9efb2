/-
  Several texts in one (CoP CoI): what each proves stands at its theorems.
  Conditions: as the theorems say.
-/
import Derived.Test.YtiknhfbkphoceaaGreatDoorCoB
import Derived.Test.YtiknhfbkphoceaaGreatDoorCoH
namespace Go.Proofs.YtiknhfbkphoceaaGreatDoor
open Go.RowKit

theorem nodupLen {α : Type} [DecidableEq α] : ∀ {l m : List α}, l.Nodup → (∀ x ∈ l, x ∈ m) → l.length ≤ m.length
  | [], _, _, _ => Nat.zero_le _
  | a :: l, m, h, hs => by
    have ha : a ∈ m := hs a (List.mem_cons_self ..)
    have h2 := List.nodup_cons.1 h
    have := nodupLen (l := l) (m := m.erase a) h2.2 fun x hx => by
      have hne : x ≠ a := fun e => h2.1 (e ▸ hx)
      exact (List.mem_erase_of_ne hne).2 (hs x (List.mem_cons_of_mem _ hx))
    rw [List.length_erase_of_mem ha] at this
    have := List.length_pos_of_mem ha
    simp only [List.length_cons]
    omega
theorem taken_iff {row ps : List Int} {p : Int} : takenB row ps p = true ↔ ∃ o ∈ row, ps.getD o.toNat 0 = p := by
  unfold takenB
  simp [List.any_eq_true]
theorem taken_not {row ps : List Int} {p : Int} : takenB row ps p = false ↔ ∀ o ∈ row, ps.getD o.toNat 0 ≠ p := by
  unfold takenB
  simp [List.any_eq_false]
/-- Words that are taken, one behind the other, are not more than there are clashes. -/
theorem taken_few {row ps : List Int} {k : Nat} (h : ∀ j : Nat, j < k → takenB row ps (16 + (j : Int)) = true) : k ≤ row.length := by
  have := nodupLen (l := (List.range k).map fun j : Nat => (16 + (j : Int))) (m := row.map fun o => ps.getD o.toNat 0) ?_ ?_
  · simpa using this
  · rw [List.Nodup, List.pairwise_map]
    exact (List.nodup_range (n := k)).imp fun h e => h (by omega)
  · intro x hx
    obtain ⟨j, hj, rfl⟩ := List.mem_map.1 hx
    obtain ⟨o, ho, he⟩ := taken_iff.1 (h j (List.mem_range.1 hj))
    exact List.mem_map.2 ⟨o, ho, he⟩
/-- The first word that no clash has. -/
def slotS (row ps : List Int) : Int := match ((List.range (row.length + 1)).map fun k : Nat => 16 + (k : Int)).find? (fun p => !takenB row ps p) with | some p => p | none => 0
theorem slot_eq {row ps : List Int} {k : Nat} (h : ∀ j : Nat, j < k → takenB row ps (16 + (j : Int)) = true) (hk : takenB row ps (16 + (k : Int)) = false) : slotS row ps = 16 + (k : Int) := by
  have hl := taken_few h
  unfold slotS
  have he : ((List.range (row.length + 1)).map fun k : Nat => 16 + (k : Int)).find? (fun p => !takenB row ps p) = some (16 + (k : Int)) := by
    rw [List.find?_eq_some_iff_append]
    refine ⟨by simp only [hk, Bool.not_false], (List.range k).map (fun k : Nat => 16 + (k : Int)), (List.range' (k + 1) (row.length - k)).map (fun k : Nat => 16 + (k : Int)), ?_, ?_⟩
    · have : List.range (row.length + 1) = List.range k ++ k :: List.range' (k + 1) (row.length - k) := by
        rw [List.range_eq_range', List.range_eq_range', ← List.range'_succ]
        have := List.range'_append (s := 0) (m := k) (n := row.length - k + 1) (step := 1)
        simp only [Nat.zero_add, Nat.one_mul] at this
        rw [this]
        congr 1
        omega
      rw [this, List.map_append, List.map_cons]
    · intro p hp
      obtain ⟨j, hj, rfl⟩ := List.mem_map.1 hp
      simp [h j (List.mem_range.1 hj)]
  rw [he]
theorem slot_any (row ps : List Int) : ∃ k : Nat, slotS row ps = 16 + (k : Int) ∧ takenB row ps (16 + (k : Int)) = false ∧ ∀ j : Nat, j < k → takenB row ps (16 + (j : Int)) = true := by
  have hex : ∀ m : Nat, (∃ k : Nat, k < m ∧ takenB row ps (16 + (k : Int)) = false ∧ ∀ j : Nat, j < k → takenB row ps (16 + (j : Int)) = true) ∨ ∀ j : Nat, j < m → takenB row ps (16 + (j : Int)) = true := by
    intro m
    induction m with
    | zero => exact .inr fun j h => absurd h (Nat.not_lt_zero j)
    | succ m ih =>
      rcases ih with ⟨k, h1, h2⟩ | h
      · exact .inl ⟨k, by omega, h2⟩
      · cases hm : takenB row ps (16 + (m : Int)) with
        | false => exact .inl ⟨m, by omega, hm, h⟩
        | true =>
          refine .inr fun j hj => ?_
          rcases Nat.lt_or_ge j m with h' | h'
          · exact h j h'
          · obtain rfl : j = m := by omega
            exact hm
  rcases hex (row.length + 1) with ⟨k, _, h2, h3⟩ | h
  · exact ⟨k, slot_eq h3 h2, h2, h3⟩
  · have := taken_few h
    omega
/-- The place that a register gets. -/
def paintS (row acr giv ps : List Int) (r : Int) (ws : List Int) : Int := match ws.find? (freeB row acr giv ps r) with | some p => p | none => slotS row ps
/-- All registers get places, one behind the other. -/
def colS (wf : List Int → Int → List Int) (rows : List (List Int)) (acr giv : List Int) (ps : List Int) (order : List Int) : List Int :=
  order.foldl (fun ps r => ps.set r.toNat (paintS (rows.getD r.toNat []) acr giv ps r (wf ps r))) ps
theorem colS_nil (wf : List Int → Int → List Int) (rows : List (List Int)) (acr giv : List Int) (ps : List Int) : colS wf rows acr giv ps [] = ps := rfl
theorem colS_snoc (wf : List Int → Int → List Int) (rows : List (List Int)) (acr giv : List Int) (ps : List Int) (xs : List Int) (r : Int) :
    colS wf rows acr giv ps (xs ++ [r]) = (colS wf rows acr giv ps xs).set r.toNat (paintS (rows.getD r.toNat []) acr giv (colS wf rows acr giv ps xs) r (wf (colS wf rows acr giv ps xs) r)) := by
  unfold colS
  rw [List.foldl_append]
  rfl
theorem colS_len (wf : List Int → Int → List Int) (rows : List (List Int)) (acr giv : List Int) (ps : List Int) (xs : List Int) : (colS wf rows acr giv ps xs).length = ps.length := by
  induction xs generalizing ps with
  | nil => rfl
  | cons x xs ih =>
    show (colS wf rows acr giv (ps.set _ _) xs).length = _
    rw [ih, List.length_set]
/-- The row of a register's clashes. -/
def rowAt (rows : List (List Int)) (r : Int) : List Int := rows.getD r.toNat []
/-- The place of a register. -/
def plAt (ps : List Int) (r : Int) : Int := ps.getD r.toNat 0
/-- What a list of places fulfils once the registers of a list have got theirs. -/
structure Painted (n : Nat) (rows : List (List Int)) (acr giv done ps : List Int) : Prop where
  len : ps.length = n
  unset : ∀ r : Int, 0 ≤ r → r < (n : Int) → r ∉ done → plAt ps r = -1
  got : ∀ r ∈ done, (plAt ps r ∈ giv ∧ (6 ≤ plAt ps r ∨ r ∉ acr)) ∨ 16 ≤ plAt ps r
  apart : ∀ r ∈ done, ∀ o ∈ rowAt rows r, plAt ps o ≠ plAt ps r
  need : ∀ r ∈ done, 16 ≤ plAt ps r → (∀ g ∈ giv, (6 ≤ g ∨ r ∉ acr) → ∃ o ∈ rowAt rows r, plAt ps o = g) ∧ ∀ q : Int, 16 ≤ q → q < plAt ps r → ∃ o ∈ rowAt rows r, plAt ps o = q
/-- Rows of clashes that turn, and of nobody with itself. -/
structure Turns (n : Nat) (rows : List (List Int)) : Prop where
  range : ∀ r : Int, 0 ≤ r → r < (n : Int) → ∀ o ∈ rowAt rows r, 0 ≤ o ∧ o < (n : Int)
  turn : ∀ r : Int, 0 ≤ r → r < (n : Int) → ∀ o ∈ rowAt rows r, r ∈ rowAt rows o
  self : ∀ r : Int, 0 ≤ r → r < (n : Int) → r ∉ rowAt rows r
theorem plAt_set {ps : List Int} {r s : Int} {p : Int} (hr : 0 ≤ r) (hs : 0 ≤ s) (hl : r < (ps.length : Int)) : plAt (ps.set r.toNat p) s = if s = r then p else plAt ps s := by
  unfold plAt
  rw [List.getD_eq_getElem?_getD, List.getElem?_set, List.getD_eq_getElem?_getD]
  by_cases h : s = r
  · subst h
    rw [if_pos rfl, if_pos rfl, if_pos (by omega)]
    rfl
  · rw [if_neg (by omega), if_neg h]
/-- What paint hands back. -/
theorem paint_says {row acr giv ps : List Int} {r : Int} {ws : List Int} (hw : ∀ g ∈ giv, g ∈ ws) (hg : ∀ g ∈ giv, 0 ≤ g ∧ g < 16) {p : Int} (hp : paintS row acr giv ps r ws = p) :
    0 ≤ p ∧ takenB row ps p = false ∧ ((p ∈ giv ∧ (6 ≤ p ∨ r ∉ acr)) ∨ (16 ≤ p ∧ (∀ g ∈ giv, (6 ≤ g ∨ r ∉ acr) → takenB row ps g = true) ∧ ∀ q : Int, 16 ≤ q → q < p → takenB row ps q = true)) := by
  unfold paintS at hp
  split at hp
  next x hf =>
    subst hp
    have h := List.find?_some hf
    unfold freeB at h
    simp only [Bool.and_eq_true, Bool.or_eq_true, decide_eq_true_eq, Bool.not_eq_true', hasN_iff] at h
    refine ⟨(hg _ h.1).1, h.2.2, .inl ⟨h.1, ?_⟩⟩
    rcases h.2.1 with h' | h'
    · exact .inl h'
    · exact .inr fun hm => by rw [hasN_iff.2 hm] at h'; cases h'
  next hf =>
    obtain ⟨k, h1, h2, h3⟩ := slot_any row ps
    rw [← hp, h1]
    refine ⟨by omega, h2, .inr ⟨by omega, fun g hm hs => ?_, fun q hq1 hq2 => ?_⟩⟩
    · have hx := List.find?_eq_none.1 hf g (hw g hm)
      unfold freeB at hx
      rw [hasN_iff.2 hm] at hx
      have h6 : (decide (6 ≤ g) || !hasN acr r) = true := by
        rcases hs with hs | hs
        · simp [hs]
        · have : hasN acr r = false := by rw [← Bool.not_eq_true, hasN_iff]; exact hs
          simp [this]
      rw [h6] at hx
      simpa using hx
    · have := h3 (q - 16).toNat (by omega)
      rwa [show (16 + ((q - 16).toNat : Int)) = q by omega] at this
theorem Painted.step {n : Nat} {rows : List (List Int)} {acr giv done ps ws : List Int} {r : Int} (h : Painted n rows acr giv done ps) (hT : Turns n rows) (hr : 0 ≤ r ∧ r < (n : Int)) (hd : ∀ x ∈ done, 0 ≤ x ∧ x < (n : Int)) (hn : r ∉ done)
    (hw : ∀ g ∈ giv, g ∈ ws) (hg : ∀ g ∈ giv, 0 ≤ g ∧ g < 16) : Painted n rows acr giv (done ++ [r]) (ps.set r.toNat (paintS (rowAt rows r) acr giv ps r ws)) := by
  obtain ⟨p, hp⟩ : ∃ p, paintS (rowAt rows r) acr giv ps r ws = p := ⟨_, rfl⟩
  obtain ⟨h0, h1, h2⟩ := paint_says hw hg hp
  rw [hp]
  have hlr : r < (ps.length : Int) := by rw [h.len]; exact hr.2
  have hS : ∀ s : Int, 0 ≤ s → plAt (ps.set r.toNat p) s = if s = r then p else plAt ps s := fun s hs => plAt_set hr.1 hs hlr
  have hnt := taken_not.1 h1
  have hun : plAt ps r = -1 := h.unset r hr.1 hr.2 hn
  have hgot0 : ∀ x ∈ done, 0 ≤ plAt ps x := fun x hx => by
    rcases h.got x hx with ⟨h, _⟩ | h
    · exact (hg _ h).1
    · omega
  refine ⟨by rw [List.length_set]; exact h.len, fun s hs1 hs2 hs => ?_, fun s hs => ?_, fun s hs o ho => ?_, fun s hs h16 => ?_⟩
  · rw [hS s hs1, if_neg (fun e => hs (by simp [e]))]
    exact h.unset s hs1 hs2 fun hm => hs (by simp [hm])
  · rcases List.mem_append.1 hs with hs | hs
    · have hne : s ≠ r := fun e => hn (e ▸ hs)
      rw [hS s (hd s hs).1, if_neg hne]
      exact h.got s hs
    · obtain rfl : s = r := by simpa using hs
      rw [hS s hr.1, if_pos rfl]
      rcases h2 with h | h
      · exact .inl h
      · exact .inr h.1
  · rcases List.mem_append.1 hs with hs | hs
    · have hne : s ≠ r := fun e => hn (e ▸ hs)
      have hs0 := hd s hs
      have ho0 := hT.range s hs0.1 hs0.2 o ho
      rw [hS s hs0.1, if_neg hne, hS o ho0.1]
      by_cases he : o = r
      · subst he
        rw [if_pos rfl]
        have := hnt s (hT.turn s hs0.1 hs0.2 o ho)
        exact fun e => this e.symm
      · rw [if_neg he]
        exact h.apart s hs o ho
    · obtain rfl : s = r := by simpa using hs
      have ho0 := hT.range s hr.1 hr.2 o ho
      have hne : o ≠ s := fun e => hT.self s hr.1 hr.2 (e ▸ ho)
      rw [hS s hr.1, if_pos rfl, hS o ho0.1, if_neg hne]
      exact hnt o ho
  · have hkeep : ∀ x : Int, 0 ≤ x → x < (n : Int) → ∀ q, 0 ≤ q → (∃ o ∈ rowAt rows x, plAt ps o = q) → ∃ o ∈ rowAt rows x, plAt (ps.set r.toNat p) o = q := by
      rintro x hx0 hx1 q hq ⟨o, ho, he⟩
      have ho0 := hT.range x hx0 hx1 o ho
      have hne : o ≠ r := by
        rintro rfl
        rw [hun] at he
        omega
      exact ⟨o, ho, by rw [hS o ho0.1, if_neg hne]; exact he⟩
    rcases List.mem_append.1 hs with hs | hs
    · have hne : s ≠ r := fun e => hn (e ▸ hs)
      have hs0 := hd s hs
      rw [hS s hs0.1, if_neg hne] at h16 ⊢
      obtain ⟨a, b⟩ := h.need s hs h16
      exact ⟨fun g hm hq => hkeep s hs0.1 hs0.2 g (hg g hm).1 (a g hm hq), fun q h1 h2 => hkeep s hs0.1 hs0.2 q (by omega) (b q h1 h2)⟩
    · obtain rfl : s = r := by simpa using hs
      rw [hS s hr.1, if_pos rfl] at h16 ⊢
      rcases h2 with ⟨h2, _⟩ | ⟨_, h3, h4⟩
      · have := (hg _ h2).2
        omega
      · exact ⟨fun g hm hq => hkeep s hr.1 hr.2 g (hg g hm).1 (taken_iff.1 (h3 g hm hq)), fun q h1 h2 => hkeep s hr.1 hr.2 q (by omega) (taken_iff.1 (h4 q h1 h2))⟩
/-- All registers that are to have places have got them. -/
theorem painted_all {n : Nat} {rows : List (List Int)} {acr giv : List Int} {wf : List Int → Int → List Int} (hT : Turns n rows) (hw : ∀ ps r, ∀ g ∈ giv, g ∈ wf ps r) (hg : ∀ g ∈ giv, 0 ≤ g ∧ g < 16) {order : List Int} (hnd : order.Nodup) (hr : ∀ r ∈ order, 0 ≤ r ∧ r < (n : Int)) :
    Painted n rows acr giv order (colS wf rows acr giv (List.replicate n (-1)) order) := by
  have key : ∀ k, k ≤ order.length → Painted n rows acr giv (order.take k) (colS wf rows acr giv (List.replicate n (-1)) (order.take k)) := by
    intro k
    induction k with
    | zero =>
      intro _
      refine ⟨by simp [colS], fun r h0 h1 _ => ?_, fun r h => by simp at h, fun r h => by simp at h, fun r h => by simp at h⟩
      unfold plAt
      simp only [List.take_zero, colS_nil]
      rw [List.getD_eq_getElem?_getD, List.getElem?_replicate, if_pos (by omega)]
      rfl
    | succ k ih =>
      intro hk
      rw [List.take_succ_eq_append_getElem (by omega), colS_snoc]
      have hm : order[k] ∈ order := List.getElem_mem _
      refine (ih (by omega)).step hT (hr _ hm) (fun x hx => hr x (List.mem_of_mem_take hx)) (fun hx => ?_) (hw _ _) hg
      obtain ⟨j, hj, he⟩ := List.mem_iff_getElem.1 hx
      rw [List.getElem_take] at he
      have hjk : j < k := by simp at hj; omega
      have := (List.pairwise_iff_getElem.1 hnd) j k (by omega) (by omega) hjk
      exact this he
  have := key order.length (Nat.le_refl _)
  rwa [List.take_length] at this
/-- Where nobody clashes, and every wish is none yet or the first place given, all have the first place given. -/
theorem merged_all {n : Nat} {rows : List (List Int)} {giv : List Int} {wf : List Int → Int → List Int} {c : Int} (hrow : ∀ r, rowAt rows r = []) (hc : c ∈ giv) (hn : (-1 : Int) ∉ giv)
    (hw : ∀ ps r, 0 ≤ r → (∀ x ∈ ps, x = -1 ∨ x = c) → ∃ pre suf, wf ps r = pre ++ c :: suf ∧ ∀ x ∈ pre, x = -1 ∨ x = c) (order : List Int) (hr : ∀ r ∈ order, 0 ≤ r ∧ r < (n : Int)) :
    (∀ x ∈ colS wf rows [] giv (List.replicate n (-1)) order, x = -1 ∨ x = c) ∧ ∀ r ∈ order, plAt (colS wf rows [] giv (List.replicate n (-1)) order) r = c := by
  have hp : ∀ ps r, 0 ≤ r → (∀ x ∈ ps, x = -1 ∨ x = c) → paintS (rowAt rows r) [] giv ps r (wf ps r) = c := by
    intro ps r hr0 h
    obtain ⟨pre, suf, e, hpre⟩ := hw ps r hr0 h
    rw [hrow, e]
    have hcf : freeB [] [] giv ps r c = true := by
      unfold freeB
      rw [hasN_iff.2 hc]
      simp [hasN, takenB]
    have hnf : freeB [] [] giv ps r (-1) = false := by
      unfold freeB
      have : hasN giv (-1) = false := by rw [← Bool.not_eq_true, hasN_iff]; exact hn
      rw [this]
      rfl
    have hf : (pre ++ c :: suf).find? (freeB [] [] giv ps r) = some c := by
      clear e
      induction pre with
      | nil => simp [hcf]
      | cons x pre ih =>
        rcases hpre x (List.mem_cons_self ..) with rfl | rfl
        · rw [List.cons_append, List.find?_cons_of_neg (by simp [hnf])]
          exact ih fun y hy => hpre y (List.mem_cons_of_mem _ hy)
        · rw [List.cons_append, List.find?_cons_of_pos hcf]
    unfold paintS
    rw [hf]
  have key : ∀ (order : List Int) (ps : List Int), ps.length = n → (∀ r ∈ order, 0 ≤ r ∧ r < (n : Int)) → (∀ x ∈ ps, x = -1 ∨ x = c) →
      (∀ x ∈ colS wf rows [] giv ps order, x = -1 ∨ x = c) ∧ (∀ r ∈ order, plAt (colS wf rows [] giv ps order) r = c) ∧ ∀ r : Int, 0 ≤ r → r < (n : Int) → plAt ps r = c → plAt (colS wf rows [] giv ps order) r = c := by
    intro order
    induction order with
    | nil => exact fun ps _ _ h => ⟨h, fun r h => by simp at h, fun r _ _ h => h⟩
    | cons x xs ih =>
      intro ps hl hr h
      have hx := hr x (List.mem_cons_self ..)
      have e : colS wf rows [] giv ps (x :: xs) = colS wf rows [] giv (ps.set x.toNat c) xs := by
        show colS wf rows [] giv (ps.set x.toNat (paintS (rowAt rows x) [] giv ps x (wf ps x))) xs = _
        rw [hp ps x hx.1 h]
      have hxl : x < (ps.length : Int) := by rw [hl]; exact hx.2
      obtain ⟨h1, h2, h3⟩ := ih (ps.set x.toNat c) (by rw [List.length_set]; exact hl) (fun r hm => hr r (List.mem_cons_of_mem _ hm)) (fun y hy => by
        rcases List.mem_or_eq_of_mem_set hy with hy | rfl
        · exact h y hy
        · exact .inr rfl)
      rw [e]
      refine ⟨h1, fun r hm => ?_, fun r h0 h1 hc => h3 r h0 h1 ?_⟩
      · rcases List.mem_cons.1 hm with rfl | hm
        · exact h3 r hx.1 hx.2 (by rw [plAt_set hx.1 hx.1 hxl, if_pos rfl])
        · exact h2 r hm
      · rw [plAt_set hx.1 h0 hxl]
        split
        · rfl
        · exact hc
  have := key order (List.replicate n (-1)) (by simp) hr (fun x hx => .inl (List.eq_of_mem_replicate hx))
  exact ⟨this.1, this.2.1⟩
end Go.Proofs.YtiknhfbkphoceaaGreatDoor
namespace Go.Proofs.YtiknhfbkphoceaaGreatDoor
open Go.RowKit
attribute [local go_sem] Oper.semAt_some

/-- How a round of a search ends. -/
def FindPost {α : Type} (B g0 : Nat) (I Ix : List α → World → Prop) (W : World) (xs : List α) (e : Exit) (W' : World) : Prop :=
  KeepsFrom B W W' ∧ B ≤ W'.heap.size ∧ ((e = .normal ∧ CellsBut g0 W W' ∧ I xs W') ∨ (e = .ret ∧ Ix xs W'))
theorem FindPost.go {α : Type} {B g0 : Nat} {I Ix : List α → World → Prop} {W W' : World} {xs : List α} (h1 : KeepsFrom B W W') (h2 : B ≤ W'.heap.size) (h3 : CellsBut g0 W W') (h4 : I xs W') : FindPost B g0 I Ix W xs .normal W' := ⟨h1, h2, .inl ⟨rfl, h3, h4⟩⟩
theorem FindPost.stop {α : Type} {B g0 : Nat} {I Ix : List α → World → Prop} {W W' : World} {xs : List α} (h1 : KeepsFrom B W W') (h2 : B ≤ W'.heap.size) (h4 : Ix xs W') : FindPost B g0 I Ix W xs .ret W' := ⟨h1, h2, .inr ⟨rfl, h4⟩⟩
/-- A loop over an iterator, of one plain variable (slot p: what comes; slot q: the variable), which may end the function; in no round. -/
theorem wp_range_find {P : Program} {α : Type} {g : Operand} {p q : Nat} {assign body : Code} {Q : Exit → Act → World → Prop} {l : List Value} {ds : List Deferred} {w : World} (g0 : Nat) {gf : Nat} {lb : Array Value}
    (hg : (⟨l.toArray, ds⟩ : Act).eval g = .func (.func gf) #[] lb) (eg : ∀ args w, (callFunc gf args).run P w = .ok (.enter gf args) w)
    {enc : α → Value} {Sx Sp : List α → Prop} {N : Nat} (hseq : SeqStopsK Fence.wide 2 P gf lb (fun x => #[enc x]) (CellsBut g0) Sx Sp N w)
    (I : List α → World → Prop) (hI : OwnFrom w.heap.size I) (Ix : List α → World → Prop) (hIx : OwnFrom w.heap.size Ix) (h0 : I [] w)
    (hassign : ∀ (lp : Nat) (x : α) (W : World) (K : Act → World → Prop), K ⟨((l.set p (enc x)).set q (enc x)).toArray, []⟩ W →
      assign.wpIn (Fence.wide.inRound lp) 1 P (Exit.then K (fun _ _ _ => False)) ⟨(l.set p (enc x)).toArray, []⟩ W)
    (hbody : ∀ (lp : Nat) (pre : List α) (x : α) (W : World), w.heap.size ≤ W.heap.size → I pre W → pre.length < N →
      body.wpIn (Fence.wide.inRound lp) 1 P (fun e _ W' => FindPost w.heap.size g0 I Ix W (pre ++ [x]) e W') ⟨((l.set p (enc x)).set q (enc x)).toArray, []⟩ W)
    (hdone : ∀ (D : Nat) (xs : List α) (W : World), w.heap.size ≤ D → Sx xs → I xs W → W.heap[D]? = some (.deferred (some [])) → Q .normal ⟨l.toArray, { target := .collected D, args := #[] } :: ds⟩ W)
    (hstop : ∀ (D : Nat) (pre : List α) (W : World), w.heap.size ≤ D → Sp pre → Ix pre W → W.heap[D]? = some (.deferred (some [])) → Q .ret ⟨l.toArray, { target := .collected D, args := #[] } :: ds⟩ W) :
    (Code.rangeFunc g #[p] assign body).wp P Q ⟨l.toArray, ds⟩ w := by
  have hz : ∀ x, ((#[p] : Array Nat).zip #[enc x]).foldl (fun (t : Array Value) (pv : Nat × Value) => t.setIfInBounds pv.1 pv.2) l.toArray = (l.set p (enc x)).toArray := fun x => by simp
  refine (wpIn_wide (n := 3)).1 (wpIn_rangeFunc_ownH rfl (by omega) hg trivial eg hseq (fun h k => h.trans k) (fun W l o o' h1 h2 h3 h4 => cellsK_b (w := w) W l o o' h1 h2 h3 h4) (Below.refl _ _) (fun _ => rfl)
    (fun pre W => I pre W ∧ w.heap.size ≤ W.heap.size) (fun c pre W => c = .ret ∧ Ix pre W) (fun s A B row hs hg' hr => ⟨hI s A B row hs.1 hg' hr, Nat.le_trans hs.2 hg'.size⟩) (fun _ s A B row hs hg' hr => ⟨hs.1, hIx s A B row hs.2 hg' hr⟩) ⟨h0, Nat.le_refl _⟩
    (fun x a' _ => a' = ⟨((l.set p (enc x)).set q (enc x)).toArray, []⟩) (fun _ _ _ _ _ _ hs _ _ => hs) ?_ ?_ ?_ ?_)
  · intro lp pre x W K hi hK
    have hz' := hz x
    simp only at hz' ⊢
    rw [hz']
    exact hassign lp x W K (hK _ _ (KeepsFrom.refl _ _) (CellsBut.refl _ _) hi rfl)
  · rintro lp pre x a' W hl _ hi rfl hlen
    refine wpIn_mono (hbody lp pre x W hi.2 hi.1 hlen) ?_
    rintro e a2 W' ⟨hk, hs, ⟨rfl, hb, hi'⟩ | ⟨rfl, hx⟩⟩
    · exact ⟨hk, hb, hi', hs⟩
    · exact ⟨hk, rfl, hx⟩
  · rintro D xs W hD hS hi hK
    exact hdone D xs W hD hS hi.1 hK
  · rintro D c pre W hD hS ⟨rfl, hx⟩ hK
    exact wpIn_wide.2 (wp_ret (hstop D pre W hD hS hx hK))

set_option maxRecDepth 100000 in
theorem wishes_stops (n : Nat) (hn : 1 ≤ n) (rb pb bp gp g : Nat) (f : FunU) (bv xv av gv : Value) (rows : List (List Int)) (acr giv ps : List Int) (r : Nat) (W0 w : World)
    (hP : PaintAt W0 bp gp f bv xv av gv rows acr giv ps) (h0W : Below W0.heap.size W0 w) (hg : W0.heap.size ≤ g) (hgW : g < w.heap.size)
    (hrb : Blk w rb 3 #[.int .i64 (r : Int)]) (hpb : Blk w pb 40 #[.pointer (some ⟨bp, 0, none⟩)]) (hrg : rb ≠ g) (hpg : pb ≠ g) (hK : WishOk f.blocks ps) :
    SeqStopsK Fence.wide n Tryz.prog 61 #[.pointer (some ⟨rb, 0, none⟩), .pointer (some ⟨pb, 0, none⟩)] (fun v : Int => #[.int .i64 v]) (CellsBut g) (fun ys => ys = wishesL f giv ps r) (fun pre => pre <+: wishesL f giv ps r) (wishesL f giv ps r).length w := fun l J Jx W hW hJ _ hY h0 => by
  refine (wishes1_in n hn l rb pb bp gp g f bv xv av gv rows acr giv ps r J Jx W0 W hP (h0W.trans (hW.mono h0W.size)) hg (Nat.lt_of_lt_of_le hgW hW.size) (hrb.below hW hrb.lt) (hpb.below hW hpb.lt) hrg hpg hK hJ ?_ h0).mono ?_
  · intro pre v W1 hv hj
    have hlen := hv.length_le
    simp only [List.length_append, List.length_cons, List.length_nil] at hlen
    exact hY pre v W1 hj (by omega)
  · rintro e W' ⟨he, ⟨ys, h1, h2⟩ | ⟨pre, h1, h2⟩⟩
    · exact ⟨he, .inl ⟨ys, h1, h2⟩⟩
    · exact ⟨he, .inr ⟨pre, h1, h2⟩⟩
set_option maxRecDepth 100000 in
theorem Wishes_any (bp : Nat) (r : Int) (W : World) :
    Calls Tryz.prog 39 #[.pointer (some ⟨bp, 0, none⟩), .int .i64 r] W fun e W' => ∃ rb pb, e = .returned (.func (.func 61) #[] #[.pointer (some ⟨rb, 0, none⟩), .pointer (some ⟨pb, 0, none⟩)]) ∧
      W.heap.size ≤ rb ∧ W.heap.size ≤ pb ∧ Below W.heap.size W W' ∧ Blk W' rb 3 #[.int .i64 r] ∧ Blk W' pb 40 #[.pointer (some ⟨bp, 0, none⟩)] := by
  go_enter Tryz.func39, Tryz.ntmps39
  go_wp2_with fail
  go_ret
  refine ⟨_, _, rfl, ?_, ?_, ((Below.refl _ _).alloc (Nat.le_refl _) _).alloc (by simp) _, ?_, ?_⟩
  · simp
  · simp
  · simpa using Blk.new (W.alloc (.cells #[.pointer (some ⟨bp, 0, none⟩)] 40)) 3 #[.int .i64 r]
  · exact (Blk.new _ _ _).alloc _
/-- The end of a function whose one result, a number, lies in a cell, behind loops over iterators. -/
theorem end_int_m {F : Fence} {n : Nat} {fn : Func} {R : Ending → World → Prop} {a : Act} {w : World} {p : Tmp} {g : Nat} {x : Int} {B : Nat} (hM : Marks B a.defers w) (h : fn.results = #[.cell p 3])
    (hp : a.tmps.getD p undef = .pointer (some ⟨g, 0, none⟩)) (hb : Blk w g 3 #[.int .i64 x]) (hR : ∀ w', Stands w w' → Below B w w' → R (.returned (.int .i64 x)) w') : bodyPostM F n Tryz.prog fn R .ret a w := by
  refine run_results_frame a.defers w hM fun w' hs hk => ⟨.int .i64 x, ?_, hR w' hs (hs.below hk)⟩
  have hp' : a.tmps[p]?.getD undef = .pointer (some ⟨g, 0, none⟩) := by simpa using hp
  have hc := (hs.blk hb).cell 0
  simp only [List.getElem?_toArray, List.getElem?_cons_zero] at hc
  simp [results, h, hp', asAddr, loadVar, go_sem, Tryz.isAgg3, hc]
set_option maxRecDepth 100000 in
set_option maxHeartbeats 4000000 in
theorem Paint_any (bp gp : Nat) (f : FunU) (bv xv av gv : Value) (rows : List (List Int)) (acr giv ps : List Int) (r : Nat) (row : List Int) (W : World) (hP : PaintAt W bp gp f bv xv av gv rows acr giv ps) (hO : PaintOk rows ps) (hr : rows[r]? = some row) (hrl : row.length ≤ 1000) (hK : WishOk f.blocks ps) :
    Calls Tryz.prog 18 #[.pointer (some ⟨bp, 0, none⟩), .int .i64 (r : Int)] W fun e W' => e = .returned (.int .i64 (paintS row acr giv ps r (wishesL f giv ps r))) ∧ Below W.heap.size W W' := by
  have HP := Lib.hid hP
  have HO := Lib.hid hO
  have HR := Lib.hid hr
  have HK := Lib.hid hK
  obtain ⟨res, hres⟩ : ∃ res, paintS row acr giv ps r (wishesL f giv ps r) = res := ⟨_, rfl⟩
  rw [hres]
  have HRes := Lib.hid hres
  have HB0 : Hid (Below W.heap.size W (((W.alloc (.cells #[.pointer (some ⟨bp, 0, none⟩)] 40)).alloc (.cells #[.int .i64 (r : Int)] 3)).alloc (.cells #[.int .i64 0] 3))) :=
    Lib.hid ((((Below.refl _ _).alloc (Nat.le_refl _) _).alloc (by simp) _).alloc (by simp; omega) _)
  have HX0 : Hid (Blk (((W.alloc (.cells #[.pointer (some ⟨bp, 0, none⟩)] 40)).alloc (.cells #[.int .i64 (r : Int)] 3)).alloc (.cells #[.int .i64 0] 3)) W.heap.size 40 #[.pointer (some ⟨bp, 0, none⟩)]) := Lib.hid (((Blk.new _ _ _).alloc _).alloc _)
  have HY0 : Hid (Blk (((W.alloc (.cells #[.pointer (some ⟨bp, 0, none⟩)] 40)).alloc (.cells #[.int .i64 (r : Int)] 3)).alloc (.cells #[.int .i64 0] 3)) (W.heap.size + 1) 3 #[.int .i64 (r : Int)]) := Lib.hid (by
    have := (Blk.new (W.alloc (.cells #[.pointer (some ⟨bp, 0, none⟩)] 40)) 3 #[.int .i64 (r : Int)]).alloc (.cells #[.int .i64 0] 3)
    rwa [World.size_alloc] at this)
  have HZ0 : Hid (Blk (((W.alloc (.cells #[.pointer (some ⟨bp, 0, none⟩)] 40)).alloc (.cells #[.int .i64 (r : Int)] 3)).alloc (.cells #[.int .i64 0] 3)) (W.heap.size + 1 + 1) 3 #[.int .i64 0]) := Lib.hid (by
    have := Blk.new ((W.alloc (.cells #[.pointer (some ⟨bp, 0, none⟩)] 40)).alloc (.cells #[.int .i64 (r : Int)] 3)) 3 #[.int .i64 0]
    rwa [World.size_alloc, World.size_alloc] at this)
  clear hP hO hr hK hres
  refine (callsIn_wide (n := 3)).1 (callsIn_of_wp_marks Tryz.func18 rfl trivial (wpIn_wide.2 ?_) rfl)
  simp only [Tryz.ntmps18, List.size_toArray, List.length_cons, List.length_nil, Nat.reduceAdd, Nat.reduceSub, Array.replicate_succ, Array.replicate_zero, List.push_toArray, List.append_toArray, List.nil_append, List.cons_append]
  go_upto_region 1 with fail
  generalize ((W.alloc (.cells #[.pointer (some ⟨bp, 0, none⟩)] 40)).alloc (.cells #[.int .i64 (r : Int)] 3)).alloc (.cells #[.int .i64 0] 3) = W0 at *
  generalize hg1 : W.heap.size + 1 = g1 at *
  generalize hg2 : g1 + 1 = g at *
  have hgW : W.heap.size ≤ g := by omega
  have hnx : W.heap.size ≠ g := by omega
  have hny : g1 ≠ g := by omega
  have Hg := Lib.hid hgW
  have Hnx := Lib.hid hnx
  have Hny := Lib.hid hny
  have hgl := HZ0.out.lt
  clear hg1 hg2 hgW hnx hny
  have x0 := HX0.out.cell 0
  have y0 := HY0.out.cell 0
  go_wp2_with fail
  refine (Wishes_any bp (r : Int) W0).mono ?_
  rintro e W1 ⟨rb, pb, rfl, h1, h2, hb1, hrb, hpb⟩
  have HB1 := Lib.hid (HB0.out.trans (hb1.mono HB0.out.size))
  have HX1 := Lib.hid (HX0.out.below hb1 HX0.out.lt)
  have HY1 := Lib.hid (HY0.out.below hb1 HY0.out.lt)
  have HZ1 := Lib.hid (HZ0.out.below hb1 HZ0.out.lt)
  have Hrb := Lib.hid hrb
  have Hpb := Lib.hid hpb
  have Hrg : Hid (rb ≠ g) := Lib.hid (by omega)
  have Hpg : Hid (pb ≠ g) := Lib.hid (by omega)
  have Hgl : Hid (g < W1.heap.size) := Lib.hid HZ1.out.lt
  clear h1 h2 hb1 hrb hpb HB0 HX0 HY0 HZ0 x0 y0 hgl
  go_wp2_with fail
  refine wp_range_find (p := 10) (q := 5) g (gf := 61) (lb := #[.pointer (some ⟨rb, 0, none⟩), .pointer (some ⟨pb, 0, none⟩)]) rfl (fun a W => MuLone.run_callFunc_enter Tryz.func61 (by kernel_rfl) rfl a W)
    (enc := fun v : Int => .int .i64 v)
    (wishes_stops 2 (by omega) rb pb bp gp g f bv xv av gv rows acr giv ps r W W1 HP.out HB1.out Hg.out Hgl.out Hrb.out Hpb.out Hrg.out Hpg.out HK.out)
    (fun pre Wx => Below W1.heap.size W1 Wx ∧ ∀ x ∈ pre, freeB row acr giv ps r x = false)
    (fun s A B row' hs hg hr => ⟨hs.1.grown hg hs.1.size (fun k e => (hr k e).1), hs.2⟩)
    (fun pre Wx => ∃ pre0 v, pre = pre0 ++ [v] ∧ (∀ x ∈ pre0, freeB row acr giv ps r x = false) ∧ freeB row acr giv ps r v = true ∧ BelowBut g W1.heap.size W1 Wx ∧ Blk Wx g 3 #[.int .i64 v])
    (fun s A B row' hs hg hr => by
      obtain ⟨pre0, v, e1, e2, e3, e4, e5⟩ := hs
      exact ⟨pre0, v, e1, e2, e3, e4.grown hg e4.size (fun k e => .inl (hr k e).1), blk_grown e5 hg (fun k e => (hr k e).2)⟩)
    ⟨Below.refl _ _, fun x h => by simp at h⟩ ?assign ?body ?done ?stop
  case assign =>
    intro lp v Wx K hK
    simp only [List.set_cons_succ, List.set_cons_zero] at hK ⊢
    gi_wp2_with fail
    exact hK
  case body =>
    rintro lp pre x Wx hs ⟨hb, hn⟩ hlen
    simp only [List.set_cons_succ, List.set_cons_zero]
    have x0 := (HX1.out.below hb HX1.out.lt).cell 0
    have y0 := (HY1.out.below hb HY1.out.lt).cell 0
    have HZx := Lib.hid (HZ1.out.below hb HZ1.out.lt)
    have HPx := Lib.hid (HP.out.below (HB1.out.trans (hb.mono HB1.out.size)))
    have HBx := Lib.hid hb
    have HN := Lib.hid hn
    have Hs := Lib.hid hs
    clear hb hn hlen hs
    gi_wp2_with fail
    refine ⟨trivial, (CallsIn.inRound lp (callsIn_wide.2 (Free_any bp gp f bv xv av gv rows acr giv ps r row x Wx HPx.out HO.out HR.out))).mono ?_⟩
    rintro e W2 ⟨rfl, hb2⟩
    have HB2 := Lib.hid hb2
    have HZ2 := Lib.hid (HZx.out.below hb2 HZx.out.lt)
    have z0 := HZ2.out.cell 0
    have hfz := HZ2.out.frozen 0
    clear hb2 x0 y0
    cases hf : freeB row acr giv ps r x with
    | false =>
      have HF : Hid (KeepsFrom W1.heap.size Wx W2 ∧ W1.heap.size ≤ W2.heap.size ∧ (CellsBut g Wx W2 ∧ (Below W1.heap.size W1 W2 ∧ ∀ y ∈ pre ++ [x], freeB row acr giv ps r y = false))) :=
        Lib.hid ⟨keepsFrom_of_but (but_of HB2.out) (Nat.le_refl _) Hgl.out, Nat.le_trans Hs.out HB2.out.size, Below.cellsBut HB2.out, HBx.out.trans (HB2.out.mono HBx.out.size), fun y hy => by
          rcases List.mem_append.1 hy with hy | hy
          · exact HN.out y hy
          · obtain rfl : y = x := by simpa using hy
            exact hf⟩
      clear hf
      gi_wp2_with fail
      exact FindPost.go HF.out.1 HF.out.2.1 HF.out.2.2.1 HF.out.2.2.2
    | true =>
      have HF : Hid (KeepsFrom W1.heap.size Wx (W2.setCell ⟨g, 0, none⟩ (.int .i64 x)) ∧ W1.heap.size ≤ (W2.setCell ⟨g, 0, none⟩ (.int .i64 x)).heap.size ∧ ∃ pre0 v, pre ++ [x] = pre0 ++ [v] ∧ (∀ x ∈ pre0, freeB row acr giv ps r x = false) ∧ freeB row acr giv ps r v = true ∧ BelowBut g W1.heap.size W1 (W2.setCell ⟨g, 0, none⟩ (.int .i64 x)) ∧ Blk (W2.setCell ⟨g, 0, none⟩ (.int .i64 x)) g 3 #[.int .i64 v]) :=
        Lib.hid ⟨keepsFrom_of_but ((but_of HB2.out).trans (BelowBut.set _ _ _ _ _)) (Nat.le_refl _) Hgl.out, by simp; exact Nat.le_trans Hs.out HB2.out.size, pre, x, rfl, HN.out, hf, (but_of (HBx.out.trans (HB2.out.mono HBx.out.size))).trans (BelowBut.set _ _ _ _ _), HZ2.out.set_ 0 _⟩
      clear hf
      gi_wp2_with fail
      exact FindPost.stop HF.out.1 HF.out.2.1 HF.out.2.2
  case done =>
    rintro D xs Wd hD hxs ⟨hb, hn⟩ hK
    have HM : Hid (Marks W.heap.size [{ target := .collected D, args := #[] }] Wd) := Lib.hid ((Marks.nil W.heap.size W1).push HB1.out.size hD hK (fun D' _ hD' => (hb.block D' (Array.getElem?_eq_some_iff.1 hD').1).trans hD'))
    have HBd := Lib.hid hb
    have HE : Hid (slotS row ps = res) := Lib.hid (by
      rw [← HRes.out]
      unfold paintS
      rw [List.find?_eq_none.2 (fun y hy => by rw [hn y (hxs ▸ hy)]; simp)])
    have HXd := Lib.hid (HX1.out.below hb HX1.out.lt)
    have HYd := Lib.hid (HY1.out.below hb HY1.out.lt)
    have HZd := Lib.hid (HZ1.out.below hb HZ1.out.lt)
    clear hb hn hK hxs hD
    obtain ⟨len, hlen⟩ : ∃ len, row.length = len := ⟨_, rfl⟩
    have hlen1 : len ≤ 1000 := by omega
    have Hlen := Lib.hid hlen
    clear hlen
    go_upto_region 6 with fail
    go_loopg [6] (len + 1) (fun gk i wr => ∃ k : Nat, k + gk = len + 1 ∧ i = .int .i64 (16 + (k : Int)) ∧ Hid (∀ j : Nat, j < k → takenB row ps (16 + (j : Int)) = true) ∧ Hid (Below Wd.heap.size Wd wr))
    case atStart => exact ⟨0, by omega, rfl, Lib.hid (fun j h => absurd h (Nat.not_lt_zero j)), Lib.hid (Below.refl _ _)⟩
    case round =>
      obtain ⟨k, hk, rfl, HT, HBr⟩ := hrel
      have hkl : k ≤ len := by have := taken_few HT.out; have := Hlen.out; omega
      have x0 := (HXd.out.below HBr.out HXd.out.lt).cell 0
      have y0 := (HYd.out.below HBr.out HYd.out.lt).cell 0
      have HZr := Lib.hid (HZd.out.below HBr.out HZd.out.lt)
      have HPr := Lib.hid (HP.out.below (HB1.out.trans ((HBd.out.trans (HBr.out.mono HBd.out.size)).mono HB1.out.size)))
      have HMr := Lib.hid (HM.out.below HBr.out)
      go_wp2_with fail
      refine (Taken_any bp gp f bv xv av gv rows acr giv ps r row (16 + (k : Int)) wr HPr.out HO.out HR.out).mono ?_
      rintro e w2 ⟨rfl, hb2⟩
      have HB2 := Lib.hid hb2
      clear hb2 x0 y0
      cases ht : takenB row ps (16 + (k : Int)) with
      | true =>
        have HT2 : Hid (∀ j : Nat, j < k + 1 → takenB row ps (16 + (j : Int)) = true) := Lib.hid (fun j hj => by
          rcases Nat.lt_or_ge j k with h | h
          · exact HT.out j h
          · obtain rfl : j = k := by omega
            exact ht)
        obtain ⟨mk, rfl⟩ : ∃ mk, gk = mk + 1 := ⟨gk - 1, by omega⟩
        clear ht
        go_wp2_with fail
        go_roundg mk
        case measure => omega
        case rel => exact ⟨k + 1, by omega, by go_num, HT2, Lib.hid (HBr.out.trans (HB2.out.mono HBr.out.size))⟩
      | false =>
        have HS : Hid (16 + (k : Int) = res) := Lib.hid (by rw [← HE.out]; exact (slot_eq HT.out ht).symm)
        have HZ2 := Lib.hid (HZr.out.below HB2.out HZr.out.lt)
        have z0 := HZ2.out.cell 0
        have hfz := HZ2.out.frozen 0
        have HM2 := Lib.hid (HMr.out.below HB2.out)
        clear ht
        go_wp2_with fail
        refine end_int_m (HM2.out.set _ _) rfl rfl (HZ2.out.set_ 0 _) ?_
        intro w' hs hb
        refine ⟨ret_int HS.out, ?_⟩
        exact (HB1.out.trans (((HBd.out.trans (HBr.out.mono HBd.out.size)).trans (HB2.out.mono (Nat.le_trans HBd.out.size HBr.out.size))).mono HB1.out.size)).setCell Hg.out _ |>.trans hb
  case stop =>
    rintro D pre Wd hD hpre ⟨pre0, v, rfl, hn, hf, hb, hz⟩ hK
    have HE : Hid (v = res) := Lib.hid (by
      rw [← HRes.out]
      obtain ⟨t, ht⟩ := hpre
      unfold paintS
      rw [← ht, List.append_assoc, List.find?_append, List.find?_eq_none.2 (fun y hy => by rw [hn y hy]; simp)]
      simp [hf])
    have HM : Hid (Marks W.heap.size [{ target := .collected D, args := #[] }] Wd) := Lib.hid ((Marks.nil W.heap.size W1).push HB1.out.size hD hK (fun D' _ hD' => (hb.block D' (Array.getElem?_eq_some_iff.1 hD').1 (fun e => by have h := HZ1.out; unfold Blk at h; rw [← e, hD'] at h; cases h)).trans hD'))
    have HBd := Lib.hid hb
    have HZd := Lib.hid hz
    clear hb hz hK hD hpre hn hf
    go_wp2_with fail
    refine end_int_m HM.out rfl rfl HZd.out ?_
    intro w' hs hb
    exact ⟨ret_int HE.out, (HB1.out.trans (HBd.out.below HB1.out.size Hg.out)).trans hb⟩
end Go.Proofs.YtiknhfbkphoceaaGreatDoor
