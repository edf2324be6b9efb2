/-
  Texts of the claim AsmWholeFixed (AwL): what each proves stands at its theorems.
  Conditions: as the theorems say.
-/
import Derived.Test.YtdldochhondifaaGreatDoorWAwK
import Derived.Test.YtdldochhondifaaGreatDoorWAwI
namespace Go.Proofs.YtdldochhondifaaGreatDoor
open Go Go.RowKit Go.Lib

theorem sub_len {α : Type} [DecidableEq α] : ∀ (l l' : List α), l.Nodup → (∀ x ∈ l, x ∈ l') → l.length ≤ l'.length
  | [], _, _, _ => by simp
  | a :: l, l', hn, h => by
    rw [List.nodup_cons] at hn
    have ha := h a (by simp)
    have ih := sub_len l (l'.erase a) hn.2 (fun x hx => (List.mem_erase_of_ne (fun e => hn.1 (by rw [← e]; exact hx))).2 (h x (by simp [hx])))
    rw [List.length_erase_of_mem ha] at ih
    have := List.length_pos_of_mem ha
    rw [List.length_cons]
    omega
def sumL (l : List (List UInt8)) : Nat := (l.map List.length).sum
theorem sumL_cons (x : List UInt8) (l : List (List UInt8)) : sumL (x :: l) = x.length + sumL l := rfl
theorem sumL_nil : sumL [] = 0 := rfl
theorem sumL_flatten (l : List (List UInt8)) : l.flatten.length = sumL l := List.length_flatten
theorem splitC_sum (c : UInt8) : ∀ (l cur : List UInt8), sumL (splitC c cur l) + ((splitC c cur l).length - 1) = cur.length + l.length
  | [], cur => by rw [splitC, sumL_cons, sumL_nil]; simp
  | a :: l, cur => by
    rw [splitC]
    split
    · have ih := splitC_sum c l []
      have hp : 0 < (splitC c [] l).length := List.length_pos_iff.2 (splitC_ne c l [])
      rw [sumL_cons, List.length_cons, List.length_cons]
      simp only [List.length_nil] at ih
      omega
    · have ih := splitC_sum c l (cur ++ [a])
      rw [List.length_append, List.length_cons, List.length_nil] at ih
      rw [List.length_cons]
      omega
theorem drop_le (p : UInt8 → Bool) (l : List UInt8) : (l.dropWhile p).length ≤ l.length := (List.dropWhile_suffix p).length_le
theorem trim_le (l : List UInt8) : (trimS l).length ≤ l.length := by
  unfold trimS
  rw [List.length_reverse]
  have h1 := drop_le bl (l.dropWhile bl).reverse
  have h2 := drop_le bl l
  rw [List.length_reverse] at h1
  omega
theorem map_trim_sum : ∀ (l : List (List UInt8)), sumL (l.map trimS) ≤ sumL l
  | [] => Nat.le_refl _
  | x :: l => by
    rw [List.map_cons, sumL_cons, sumL_cons]
    have h1 := trim_le x
    have h2 := map_trim_sum l
    omega
theorem cuts_sum (s : List UInt8) : sumL (cutsL s) + ((cutsL s).length - 1) ≤ s.length := by
  unfold cutsL
  split
  · simp [sumL]
  · have h1 := splitC_sum 44 s []
    have h2 := map_trim_sum (splitC 44 [] s)
    rw [List.length_map]
    simp only [List.length_nil] at h1
    omega
theorem line_parts (s : List UInt8) : (wordP s).length + (if tailP s = [] then 0 else 1 + (tailP s).length) ≤ s.length := by
  have hs : s.takeWhile (fun c => !bl c) ++ s.dropWhile (fun c => !bl c) = s := List.takeWhile_append_dropWhile
  have hl := congrArg List.length hs
  rw [List.length_append] at hl
  unfold wordP tailP
  cases hd : s.dropWhile (fun c => !bl c) with
  | nil => rw [hd] at hl; simp at hl ⊢; omega
  | cons a r =>
    have ha : bl a = true := by
      have := drop_head (p := fun c => !bl c) (l := s) (c := a) (by rw [hd]; rfl)
      simpa using this
    rw [hd, List.length_cons] at hl
    rw [List.dropWhile_cons, if_pos ha]
    have h2 := drop_le bl r
    split
    · omega
    · omega
theorem words_sum : ∀ (l cur : List UInt8), sumL (wordsU cur l) + ((wordsU cur l).length - 1) ≤ cur.length + l.length
  | [], cur => by
    rw [wordsU]
    split
    · simp [sumL]
    · rw [sumL_cons, sumL_nil]; simp
  | a :: l, cur => by
    rw [wordsU]
    have i1 := words_sum l []
    have i2 := words_sum l (cur ++ [a])
    rw [List.length_append, List.length_cons, List.length_nil] at i2
    simp only [List.length_nil] at i1
    split
    · split
      · rw [List.length_cons]; omega
      · rw [sumL_cons, List.length_cons, List.length_cons]; omega
    · rw [List.length_cons]; omega

structure FineI (x : Ins) : Prop where
  op : isOp x.m.op = true
  goal : shK x.m.op = 2 → x.goal.isSome = true
  goal' : x.goal.isSome = true → shK x.m.op = 2
  call : shK x.m.op = 4 → x.call.isSome = true
  call' : x.call.isSome = true → shK x.m.op = 4
def partC (x : Ins) (c : UInt8) : Nat :=
  if c = 100 then 1 + (itoa x.m.dst).length else if c = 97 then 1 + (itoa x.m.a).length else if c = 98 then 1 + (itoa x.m.b).length
  else if c = 116 then 5 else if c = 114 then (x.call.getD []).length else (itoa x.m.n).length
def sumC (x : Ins) (cs : List UInt8) : Nat := (cs.map (partC x)).sum
def costI (x : Ins) : Nat := 3 + (wordL x.m.op).length + (if ordL x.m.op = [] then 0 else 1 + sumC x (ordL x.m.op) + 2 * ((ordL x.m.op).length - 1))
theorem regI_len {s : List UInt8} {n : Int} (h : regI s = some n) : s = 114 :: itoa n := by
  cases s with
  | nil => cases h
  | cons c r =>
    by_cases hc : c = 114
    · subst hc
      rw [regI_hit] at h
      cases hn : numI r with
      | none => rw [hn] at h; cases h
      | some m =>
        rw [hn] at h
        simp only at h
        split at h
        · cases h
          rw [(numI_some.1 hn).2]
        · cases h
    · rw [regI_miss (by simpa using hc)] at h
      cases h
theorem labI_len {s : List UInt8} {n : Int} (h : labI s = some n) : 2 ≤ s.length := by
  cases s with
  | nil => cases h
  | cons c r =>
    by_cases hc : c = 76
    · subst hc
      rw [labI_hit] at h
      cases r with
      | nil => rw [digI_nil] at h; cases h
      | cons d r => simp
    · rw [labI_miss (by simpa using hc)] at h
      cases h
theorem word_two {op : Int} (h : isOp op = true) : 2 ≤ (wordL op).length := by
  rw [isOp_iff] at h
  have key : ∀ k : Fin 48, 1 ≤ k.val → 2 ≤ (wordL (k.val : Int)).length := by decide +kernel
  have := key ⟨op.toNat, by omega⟩ (by simp; omega)
  simp only [show ((op.toNat : Nat) : Int) = op from by omega] at this
  exact this
/-- What a line of parts tells: each part's letters cost no more than the part, a label three more. -/
theorem parts_cost : ∀ (op : Int), isOp op = true → ∀ (ps : List (List UInt8)) (x : Ins), ps.length = (ordL op).length → fieldsP true (ins0 op) (ordL op) ps = some x →
    FineI x ∧ x.m.op = op ∧ sumC x (ordL op) ≤ sumL ps + 3 ∧ (shK op = 2 → 2 ≤ sumL ps) ∧ (shK op ≠ 2 → sumC x (ordL op) ≤ sumL ps) := by
  intro op ho ps x hl h
  have rg : ∀ {s : List UInt8} {n : Int}, regI s = some n → s.length = 1 + (itoa n).length := fun h => by rw [regI_len h, List.length_cons]; omega
  have nm : ∀ {s : List UInt8} {n : Int}, numI s = some n → s.length = (itoa n).length := fun h => by rw [(numI_some.1 h).2]
  rcases ord_cases ho with ⟨e, h1, h2, h3, h4⟩ | ⟨e, h1, h2, h3, h4⟩ | ⟨e, h1, h2, h3, h4, _⟩ | ⟨e, h1, h2, h3, h4, _⟩ | ⟨e, h1, h2, h3, h4⟩ | ⟨e, h1, h2, h3, h4⟩ | ⟨e, h1, h2, h3, h4⟩ | ⟨e, h1, h2, h3, h4⟩ | ⟨e, h1, h2, h3, h4⟩ | ⟨e, h1, h2, h3, h4⟩ | ⟨e, h1, h2, h3, h4⟩ | ⟨e, h1, h2, h3, h4⟩ | ⟨e, h1, h2, h3, h4⟩ | ⟨e, h1, h2, h3, h4⟩ <;> rw [e] at hl h ⊢
  · obtain ⟨p, q, rfl⟩ : ∃ p q, ps = [p, q] := by
      match ps, hl with
      | [p, q], _ => exact ⟨p, q, rfl⟩
    simp [fieldsP, fieldP, ins0, Option.bind_eq_some_iff, Option.map_eq_some_iff] at h
    obtain ⟨_, ⟨n0, e0, rfl⟩, n1, e1, rfl⟩ := h
    have l0 := rg e0
    have l1 := nm e1
    refine ⟨⟨ho, fun h => (by rw [h4] at h; cases h), fun h => (by cases h), fun h => (by rw [h4] at h; cases h), fun h => (by cases h)⟩, rfl, ?_, ?_, ?_⟩
    · simp [sumC, partC, sumL]; omega
    · intro h; rw [h4] at h; cases h
    · intro _; simp [sumC, partC, sumL]; omega
  · obtain ⟨p, q, rfl⟩ : ∃ p q, ps = [p, q] := by
      match ps, hl with
      | [p, q], _ => exact ⟨p, q, rfl⟩
    simp [fieldsP, fieldP, ins0, Option.bind_eq_some_iff, Option.map_eq_some_iff] at h
    obtain ⟨_, ⟨n0, e0, rfl⟩, n1, e1, rfl⟩ := h
    have l0 := rg e0
    have l1 := rg e1
    refine ⟨⟨ho, fun h => (by rw [h4] at h; cases h), fun h => (by cases h), fun h => (by rw [h4] at h; cases h), fun h => (by cases h)⟩, rfl, ?_, ?_, ?_⟩
    · simp [sumC, partC, sumL]; omega
    · intro h; rw [h4] at h; cases h
    · intro _; simp [sumC, partC, sumL]; omega
  · obtain ⟨p, q, r, rfl⟩ : ∃ p q r, ps = [p, q, r] := by
      match ps, hl with
      | [p, q, r], _ => exact ⟨p, q, r, rfl⟩
    simp [fieldsP, fieldP, ins0, Option.bind_eq_some_iff, Option.map_eq_some_iff] at h
    obtain ⟨_, ⟨n0, e0, rfl⟩, _, ⟨n1, e1, rfl⟩, n2, e2, rfl⟩ := h
    have l0 := rg e0
    have l1 := rg e1
    have l2 := rg e2
    refine ⟨⟨ho, fun h => (by rw [h4] at h; cases h), fun h => (by cases h), fun h => (by rw [h4] at h; cases h), fun h => (by cases h)⟩, rfl, ?_, ?_, ?_⟩
    · simp [sumC, partC, sumL]; omega
    · intro h; rw [h4] at h; cases h
    · intro _; simp [sumC, partC, sumL]; omega
  · obtain ⟨p, q, r, rfl⟩ : ∃ p q r, ps = [p, q, r] := by
      match ps, hl with
      | [p, q, r], _ => exact ⟨p, q, r, rfl⟩
    simp [fieldsP, fieldP, ins0, Option.bind_eq_some_iff, Option.map_eq_some_iff] at h
    obtain ⟨_, ⟨n0, e0, rfl⟩, _, ⟨n1, e1, rfl⟩, n2, e2, rfl⟩ := h
    have l0 := rg e0
    have l1 := rg e1
    have l2 := nm e2
    refine ⟨⟨ho, fun h => (by rw [h4] at h; cases h), fun h => (by cases h), fun h => (by rw [h4] at h; cases h), fun h => (by cases h)⟩, rfl, ?_, ?_, ?_⟩
    · simp [sumC, partC, sumL]; omega
    · intro h; rw [h4] at h; cases h
    · intro _; simp [sumC, partC, sumL]; omega
  · obtain ⟨p, q, r, rfl⟩ : ∃ p q r, ps = [p, q, r] := by
      match ps, hl with
      | [p, q, r], _ => exact ⟨p, q, r, rfl⟩
    simp [fieldsP, fieldP, ins0, Option.bind_eq_some_iff, Option.map_eq_some_iff] at h
    obtain ⟨_, ⟨n0, e0, rfl⟩, _, ⟨n1, e1, rfl⟩, n2, e2, rfl⟩ := h
    have l0 := rg e0
    have l1 := rg e1
    have l2 := nm e2
    refine ⟨⟨ho, fun h => (by rw [h4] at h; cases h), fun h => (by cases h), fun h => (by rw [h4] at h; cases h), fun h => (by cases h)⟩, rfl, ?_, ?_, ?_⟩
    · simp [sumC, partC, sumL]; omega
    · intro h; rw [h4] at h; cases h
    · intro _; simp [sumC, partC, sumL]; omega
  · obtain ⟨p, q, rfl⟩ : ∃ p q, ps = [p, q] := by
      match ps, hl with
      | [p, q], _ => exact ⟨p, q, rfl⟩
    simp [fieldsP, fieldP, ins0, Option.bind_eq_some_iff, Option.map_eq_some_iff] at h
    obtain ⟨_, ⟨n0, e0, rfl⟩, n1, e1, rfl⟩ := h
    have l0 := rg e0
    have l1 := nm e1
    refine ⟨⟨ho, fun h => (by rw [h4] at h; cases h), fun h => (by cases h), fun h => (by rw [h4] at h; cases h), fun h => (by cases h)⟩, rfl, ?_, ?_, ?_⟩
    · simp [sumC, partC, sumL]; omega
    · intro h; rw [h4] at h; cases h
    · intro _; simp [sumC, partC, sumL]; omega
  · obtain ⟨p, q, rfl⟩ : ∃ p q, ps = [p, q] := by
      match ps, hl with
      | [p, q], _ => exact ⟨p, q, rfl⟩
    simp [fieldsP, fieldP, ins0, Option.bind_eq_some_iff, Option.map_eq_some_iff] at h
    obtain ⟨_, ⟨n0, e0, rfl⟩, n1, e1, rfl⟩ := h
    have l0 := rg e0
    have l1 := nm e1
    refine ⟨⟨ho, fun h => (by rw [h4] at h; cases h), fun h => (by cases h), fun h => (by rw [h4] at h; cases h), fun h => (by cases h)⟩, rfl, ?_, ?_, ?_⟩
    · simp [sumC, partC, sumL]; omega
    · intro h; rw [h4] at h; cases h
    · intro _; simp [sumC, partC, sumL]; omega
  · obtain ⟨p, rfl⟩ : ∃ p, ps = [p] := by
      match ps, hl with
      | [p], _ => exact ⟨p, rfl⟩
    simp [fieldsP, fieldP, ins0, Option.map_eq_some_iff] at h
    obtain ⟨n0, e0, rfl⟩ := h
    have l0 := labI_len e0
    refine ⟨⟨ho, fun _ => rfl, fun _ => h4, fun h => (by rw [h4] at h; cases h), fun h => (by cases h)⟩, rfl, ?_, ?_, ?_⟩
    · simp [sumC, partC, sumL]; omega
    · intro _; simp [sumL]; omega
    · intro h; exact absurd h4 h
  · obtain ⟨p, q, rfl⟩ : ∃ p q, ps = [p, q] := by
      match ps, hl with
      | [p, q], _ => exact ⟨p, q, rfl⟩
    simp [fieldsP, fieldP, ins0, Option.bind_eq_some_iff, Option.map_eq_some_iff] at h
    obtain ⟨_, ⟨n0, e0, rfl⟩, n1, e1, rfl⟩ := h
    have l0 := rg e0
    have l1 := labI_len e1
    refine ⟨⟨ho, fun _ => rfl, fun _ => h4, fun h => (by rw [h4] at h; cases h), fun h => (by cases h)⟩, rfl, ?_, ?_, ?_⟩
    · simp [sumC, partC, sumL]; omega
    · intro _; simp [sumL]; omega
    · intro h; exact absurd h4 h
  · obtain ⟨p, q, r, rfl⟩ : ∃ p q r, ps = [p, q, r] := by
      match ps, hl with
      | [p, q, r], _ => exact ⟨p, q, r, rfl⟩
    simp [fieldsP, fieldP, ins0, Option.bind_eq_some_iff, Option.map_eq_some_iff] at h
    obtain ⟨_, ⟨n0, e0, rfl⟩, _, ⟨n1, e1, rfl⟩, n2, e2, rfl⟩ := h
    have l0 := rg e0
    have l1 := rg e1
    have l2 := labI_len e2
    refine ⟨⟨ho, fun _ => rfl, fun _ => h4, fun h => (by rw [h4] at h; cases h), fun h => (by cases h)⟩, rfl, ?_, ?_, ?_⟩
    · simp [sumC, partC, sumL]; omega
    · intro _; simp [sumL]; omega
    · intro h; exact absurd h4 h
  · obtain ⟨p, rfl⟩ : ∃ p, ps = [p] := by
      match ps, hl with
      | [p], _ => exact ⟨p, rfl⟩
    simp [fieldsP, fieldP, ins0] at h
    obtain ⟨e0, rfl⟩ := h
    refine ⟨⟨ho, fun h => (by rw [h4] at h; cases h), fun h => (by cases h), fun _ => rfl, fun _ => h4⟩, rfl, ?_, ?_, ?_⟩
    · simp [sumC, partC, sumL]
    · intro h; rw [h4] at h; cases h
    · intro _; simp [sumC, partC, sumL]
  · obtain rfl : ps = [] := List.eq_nil_of_length_eq_zero hl
    simp [fieldsP, ins0] at h
    subst h
    refine ⟨⟨ho, fun h => (by rw [h4] at h; cases h), fun h => (by cases h), fun h => (by rw [h4] at h; cases h), fun h => (by cases h)⟩, rfl, ?_, ?_, ?_⟩
    · simp [sumC, sumL]
    · intro h; rw [h4] at h; cases h
    · intro _; simp [sumC, sumL]
  · obtain ⟨p, rfl⟩ : ∃ p, ps = [p] := by
      match ps, hl with
      | [p], _ => exact ⟨p, rfl⟩
    simp [fieldsP, fieldP, ins0, Option.map_eq_some_iff] at h
    obtain ⟨n0, e0, rfl⟩ := h
    have l0 := rg e0
    refine ⟨⟨ho, fun h => (by rw [h4] at h; cases h), fun h => (by cases h), fun h => (by rw [h4] at h; cases h), fun h => (by cases h)⟩, rfl, ?_, ?_, ?_⟩
    · simp [sumC, partC, sumL]; omega
    · intro h; rw [h4] at h; cases h
    · intro _; simp [sumC, partC, sumL]; omega
  · obtain ⟨p, rfl⟩ : ∃ p, ps = [p] := by
      match ps, hl with
      | [p], _ => exact ⟨p, rfl⟩
    simp [fieldsP, fieldP, ins0, Option.map_eq_some_iff] at h
    obtain ⟨n0, e0, rfl⟩ := h
    have l0 := rg e0
    refine ⟨⟨ho, fun h => (by rw [h4] at h; cases h), fun h => (by cases h), fun h => (by rw [h4] at h; cases h), fun h => (by cases h)⟩, rfl, ?_, ?_, ?_⟩
    · simp [sumC, partC, sumL]; omega
    · intro h; rw [h4] at h; cases h
    · intro _; simp [sumC, partC, sumL]; omega
/-- What follows the cases. -/
theorem instr_cost {s : List UInt8} {op : Int} {x : Ins} (h1 : opP (wordP s) (cutsL (tailP s)) = some op) (h2 : fieldsP true (ins0 op) (ordL op) (cutsL (tailP s)) = some x) : FineI x ∧ costI x ≤ 2 * (s.length + 1) := by
  obtain ⟨ho, hf⟩ := fit_range h1
  unfold fitP at hf
  rw [Bool.and_eq_true, Bool.and_eq_true, decide_eq_true_eq, decide_eq_true_eq] at hf
  obtain ⟨⟨hw, hl⟩, _⟩ := hf
  obtain ⟨hg, hop, c1, c2, c3⟩ := parts_cost op ho _ x hl.symm h2
  refine ⟨hg, ?_⟩
  have hp := line_parts s
  have hc := cuts_sum (tailP s)
  have h2w := word_two ho
  rw [← hw] at hp
  unfold costI
  rw [hop]
  by_cases h0 : ordL op = []
  · rw [if_pos h0]
    split at hp <;> omega
  · rw [if_neg h0]
    have hk : 0 < (ordL op).length := List.length_pos_iff.2 h0
    have ht : tailP s ≠ [] := fun e => by
      rw [e] at hl
      unfold cutsL at hl
      rw [if_pos rfl] at hl
      simp at hl
      exact h0 hl
    rw [if_neg ht] at hp
    by_cases hs : shK op = 2
    · have := c2 hs
      omega
    · have := c3 hs
      omega
def costS (st : PSt) : Nat := (st.code.map costI).sum + 7 * st.labs.length
def FineS (st : PSt) : Prop := ∀ x ∈ st.code, FineI x
theorem line_cost {st : PSt} {s : List UInt8} (hg : FineS st) (h : (lineP true st s).1 = 0) : FineS (lineP true st s).2 ∧ costS (lineP true st s).2 ≤ costS st + 2 * (s.length + 1) := by
  unfold lineP at h ⊢
  by_cases hc : s.getLast? = some 58
  · rw [if_pos hc] at h ⊢
    cases hl : labI s.dropLast with
    | none => rw [hl] at h; cases h
    | some n =>
      rw [hl] at h
      simp only at h ⊢
      by_cases hh : (st.labs.any fun x => x.1 == n) = true
      · rw [if_pos hh] at h; cases h
      · rw [if_neg hh]
        refine ⟨hg, ?_⟩
        have h2 := labI_len hl
        rw [List.length_dropLast] at h2
        unfold costS
        simp only [List.length_append, List.length_cons, List.length_nil]
        omega
  · rw [if_neg hc] at h ⊢
    cases hop : opP (wordP s) (cutsL (tailP s)) with
    | none => rw [hop] at h; cases h
    | some op =>
      rw [hop] at h
      simp only at h ⊢
      cases hf : fieldsP true (ins0 op) (ordL op) (cutsL (tailP s)) with
      | none => rw [hf] at h; cases h
      | some x =>
        simp only
        obtain ⟨h1, h2⟩ := instr_cost hop hf
        refine ⟨fun y hy => ?_, ?_⟩
        · rcases List.mem_append.1 hy with hy | hy
          · exact hg y hy
          · rw [List.mem_singleton] at hy
            subst hy
            exact h1
        · unfold costS
          simp only [List.map_append, List.map_cons, List.map_nil, List.sum_append, List.sum_cons, List.sum_nil]
          omega
def secCost (y : SecP) : Nat := 9 + y.name.length + costS y.st
def costW (x : WSt) : Nat := sumL (x.globs.map globL) + (x.secs.map secCost).sum
def FineW (x : WSt) : Prop := ∀ y ∈ x.secs, FineS y.st
theorem numsP_back : ∀ (ws : List (List UInt8)) (l : List Int), numsP ws = some l → ws = l.map itoa
  | [], l, h => by cases h; rfl
  | s :: ss, l, h => by
    rw [numsP] at h
    obtain ⟨n, hn, h2⟩ := Option.bind_eq_some_iff.1 h
    obtain ⟨l', hl', rfl⟩ := Option.map_eq_some_iff.1 h2
    rw [List.map_cons, ← numsP_back ss l' hl', (numI_some.1 hn).2]
theorem joinB_len : ∀ (ws : List (List UInt8)), (joinB ws).length = sumL ws + (ws.length - 1)
  | [] => rfl
  | w :: ws => by
    unfold joinB
    rw [List.length_append, sumL_flatten, sumL_cons]
    have : ∀ l : List (List UInt8), sumL (l.map fun x => 32 :: x) = sumL l + l.length := by
      intro l
      induction l with
      | nil => rfl
      | cons a l ih => rw [List.map_cons, sumL_cons, sumL_cons, ih, List.length_cons, List.length_cons]; omega
    rw [this, List.length_cons]
    omega
theorem globP_words {w : List (List UInt8)} {g : Glob} (h : globP w = some g) (h0 : w.getD 0 [] = globW) : w = globWords g := by
  unfold globP at h
  split at h
  · rename_i hc
    obtain ⟨l, hl, rfl⟩ := Option.map_eq_some_iff.1 h
    match w, hc.1 with
    | a :: b :: c :: r, _ =>
      have h2 := numsP_back _ _ hl
      simp only [List.drop_succ_cons, List.drop_zero] at h2
      cases l with
      | nil => cases h2
      | cons n l =>
        rw [List.map_cons] at h2
        injection h2 with e1 e2
        have h0' : a = globW := h0
        unfold globWords
        simp only [List.getD_cons_succ, List.getD_cons_zero, List.headD_cons, List.tail_cons, mkS_list]
        rw [h0', e1, e2]
  · cases h
theorem wline_cost {x : WSt} {s : List UInt8} (hg : FineW x) (h : (wlineP x s).1 = 0) : FineW (wlineP x s).2 ∧ costW (wlineP x s).2 ≤ costW x + 2 * (s.length + 1) := by
  have hws := words_sum s []
  simp only [List.length_nil, Nat.zero_add] at hws
  change sumL (wordsP s) + ((wordsP s).length - 1) ≤ s.length at hws
  unfold wlineP at h ⊢
  by_cases h0 : (wordsP s).getD 0 [] = globW
  · rw [if_pos h0] at h ⊢
    by_cases h1 : x.secs ≠ []
    · rw [if_pos h1] at h; cases h
    · rw [if_neg h1] at h ⊢
      cases hgp : globP (wordsP s) with
      | none => rw [hgp] at h; cases h
      | some g =>
        simp only
        refine ⟨hg, ?_⟩
        have hw := globP_words hgp h0
        have hl : (globL g).length = sumL (wordsP s) + ((wordsP s).length - 1) + 1 := by
          rw [globL_eq, List.length_append, joinB_len, ← hw]
          rfl
        unfold costW
        simp only
        rw [List.map_append]
        have : sumL (x.globs.map globL ++ [g].map globL) = sumL (x.globs.map globL) + (globL g).length := by
          unfold sumL
          simp
        rw [this]
        omega
  · rw [if_neg h0] at h ⊢
    by_cases h1 : (wordsP s).getD 0 [] = routW
    · rw [if_pos h1] at h ⊢
      by_cases h2 : (wordsP s).length = 2 ∧ nameS (mkS ((wordsP s).getD 1 [])) = true
      · rw [if_pos h2]
        refine ⟨fun y hy => ?_, ?_⟩
        · rcases List.mem_append.1 hy with hy | hy
          · exact hg y hy
          · rw [List.mem_singleton] at hy
            subst hy
            intro z hz
            simp at hz
        · unfold costW
          simp only [List.map_append, List.map_cons, List.map_nil, List.sum_append, List.sum_cons, List.sum_nil]
          have hsum : sumL (wordsP s) = 7 + ((wordsP s).getD 1 []).length := by
            generalize wordsP s = ws at h1 h2
            match ws, h2.1 with
            | [a, b], _ =>
              have ha : a = routW := h1
              rw [ha]
              simp [sumL, routW]
          have : secCost ⟨(wordsP s).getD 1 [], ⟨[], []⟩⟩ = 9 + ((wordsP s).getD 1 []).length := by
            unfold secCost costS
            simp
          rw [this]
          have := h2.1
          omega
      · rw [if_neg h2] at h; cases h
    · rw [if_neg h1] at h ⊢
      unfold lastLineP at h ⊢
      cases hl : x.secs.getLast? with
      | none => rw [hl] at h; cases h
      | some y =>
        rw [hl] at h
        simp only at h ⊢
        have hym := List.mem_of_getLast? hl
        obtain ⟨l1, l2⟩ := line_cost (hg y hym) h
        have hne : x.secs ≠ [] := by intro e; rw [e] at hl; cases hl
        have he : x.secs = x.secs.dropLast ++ [y] := by
          rw [List.getLast?_eq_some_getLast hne] at hl
          cases hl
          exact (List.dropLast_concat_getLast hne).symm
        refine ⟨fun z hz => ?_, ?_⟩
        · rcases List.mem_append.1 hz with hz | hz
          · exact hg z ((List.dropLast_sublist _).subset hz)
          · rw [List.mem_singleton] at hz
            subst hz
            exact l1
        · unfold costW
          simp only [List.map_append, List.map_cons, List.map_nil, List.sum_append, List.sum_cons, List.sum_nil]
          have h3 : (x.secs.map secCost).sum = (x.secs.dropLast.map secCost).sum + secCost y := by
            conv => lhs; rw [he]
            simp
          have h4 : secCost ⟨y.name, (lineP true y.st s).2⟩ ≤ secCost y + 2 * (s.length + 1) := by
            unfold secCost
            simp only
            omega
          omega
def lineSum (ls : List (List UInt8)) : Nat := (ls.map fun l => l.length + 1).sum
theorem steps_cost : ∀ (ls : List (List UInt8)) (i : Nat) (x : WSt), FineW x → (stepsW i x ls).1.1 = 0 → FineW (stepsW i x ls).2 ∧ costW (stepsW i x ls).2 ≤ costW x + 2 * lineSum ls
  | [], _, x, hg, _ => ⟨hg, by unfold lineSum; simp [stepsW]⟩
  | l :: ls, i, x, hg, h => by
    have hs : lineSum (l :: ls) = l.length + 1 + lineSum ls := by unfold lineSum; simp
    rw [stepsW] at h ⊢
    by_cases hl : l = []
    · rw [if_pos hl] at h ⊢
      obtain ⟨a, b⟩ := steps_cost ls (i + 1) x hg h
      exact ⟨a, by omega⟩
    · rw [if_neg hl] at h ⊢
      by_cases h0 : (wlineP x l).1 = 0
      · rw [if_pos h0] at h ⊢
        obtain ⟨c, d⟩ := wline_cost hg h0
        obtain ⟨a, b⟩ := steps_cost ls (i + 1) _ c h
        exact ⟨a, by omega⟩
      · rw [if_neg h0] at h
        exact absurd h h0
theorem clean_le (l : List UInt8) : (cleanS l).length ≤ l.length := by
  unfold cleanS
  have h1 := trim_le (cutS l)
  have h2 : (cutS l).length ≤ l.length := (List.takeWhile_prefix _).length_le
  omega
theorem lines_cost (t : List UInt8) : lineSum (linesL t) ≤ t.length + 1 := by
  have key : ∀ ls : List (List UInt8), lineSum (ls.map cleanS) ≤ sumL ls + ls.length := by
    intro ls
    induction ls with
    | nil => exact Nat.le_refl _
    | cons a l ih =>
      have h1 := clean_le a
      have : lineSum ((a :: l).map cleanS) = (cleanS a).length + 1 + lineSum (l.map cleanS) := by unfold lineSum; simp
      rw [this, sumL_cons, List.length_cons]
      omega
  have h1 := splitC_sum 10 t []
  have h2 := key (splitC 10 [] t)
  have hp : 0 < (splitC 10 [] t).length := List.length_pos_iff.2 (splitC_ne 10 t [])
  simp only [List.length_nil] at h1
  unfold linesL
  omega

theorem join_sum : ∀ (ps : List (List UInt8)), ps ≠ [] → (join ps [44, 32]).length = sumL ps + 2 * (ps.length - 1)
  | [], h => absurd rfl h
  | [p], _ => by rw [join_one, sumL_cons, sumL_nil]; simp
  | p :: q :: r, _ => by
    have ih := join_sum (q :: r) (by simp)
    have e : sumL (p :: q :: r) = p.length + sumL (q :: r) := rfl
    rw [joined_cons, List.length_append, List.length_append, ih, e]
    simp only [List.length_cons, List.length_nil]
    omega
theorem sum_le {α : Type} {f : α → List UInt8} {g : α → Nat} : ∀ (l : List α), (∀ x ∈ l, (f x).length ≤ g x) → sumL (l.map f) ≤ (l.map g).sum
  | [], _ => Nat.le_refl _
  | a :: l, h => by
    rw [List.map_cons, sumL_cons, List.map_cons, List.sum_cons]
    have h1 := h a (by simp)
    have h2 := sum_le l (fun x hx => h x (by simp [hx]))
    omega
theorem link_goal {names : List (List UInt8)} {st : PSt} {x : Ins} : (linkP names st.labs x).op = x.m.op ∧ (linkP names st.labs x).dst = x.m.dst ∧ (linkP names st.labs x).a = x.m.a ∧ (linkP names st.labs x).b = x.m.b := by
  unfold linkP setP
  cases x.call <;> cases x.goal <;> exact ⟨rfl, rfl, rfl, rfl⟩
theorem link_n {names : List (List UInt8)} {st : PSt} {x : Ins} (hx : FineI x) :
    (shK x.m.op = 2 → (linkP names st.labs x).n = ((placeP st.labs (x.goal.getD 0)).getD 0 : Nat)) ∧ (shK x.m.op = 4 → (linkP names st.labs x).n = ((findP names (x.call.getD [])).getD 0 : Nat)) ∧ (shK x.m.op ≠ 2 → shK x.m.op ≠ 4 → (linkP names st.labs x).n = x.m.n) := by
  have hcall : shK x.m.op ≠ 4 → x.call = none := fun h => by
    cases hc : x.call with
    | none => rfl
    | some c => exact absurd (hx.call' (by rw [hc]; rfl)) h
  have hgoal : shK x.m.op ≠ 2 → x.goal = none := fun h => by
    cases hc : x.goal with
    | none => rfl
    | some c => exact absurd (hx.goal' (by rw [hc]; rfl)) h
  refine ⟨fun h => ?_, fun h => ?_, fun h1 h2 => ?_⟩
  · obtain ⟨g, hg⟩ := Option.isSome_iff_exists.1 (hx.goal h)
    unfold linkP setP
    rw [hcall (by rw [h]; decide), hg]
    rfl
  · obtain ⟨c, hc⟩ := Option.isSome_iff_exists.1 (hx.call h)
    unfold linkP
    rw [hc]
    rfl
  · unfold linkP setP
    rw [hcall h2, hgoal h1]
theorem small_itoa {n : Nat} (h : n < 10000) : (itoa (n : Int)).length ≤ 4 := by
  unfold itoa
  rw [if_neg (by omega)]
  exact dec_len 4 _ (by omega) (by omega)
/-- The line of an instruction that has been read. -/
theorem line_cost_le {names : List (List UInt8)} {st : PSt} {x : Ins} {rt : Int → List UInt8} (hx : FineI x) (hp : ∀ g p, x.goal = some g → placeP st.labs g = some p → p < 10000) (hr : ∀ c, x.call = some c → (rt ((findP names c).getD 0 : Nat)).length ≤ c.length) : (lineL rt (linkP names st.labs x)).length ≤ costI x := by
  obtain ⟨e1, e2, e3, e4⟩ := link_goal (names := names) (st := st) (x := x)
  obtain ⟨n1, n2, n3⟩ := link_n (names := names) (st := st) hx
  have hpart : ∀ c ∈ ordL x.m.op, (partL (linkP names st.labs x) rt c).length ≤ partC x c := fun c hc => by
    obtain ⟨_, _, _, c4, c5⟩ := ord_has hx.op hc
    unfold partL partC
    rw [e2, e3, e4]
    by_cases h1 : c = 100
    · rw [if_pos h1, if_pos h1, List.length_cons]; omega
    rw [if_neg h1, if_neg h1]
    by_cases h2 : c = 97
    · rw [if_pos h2, if_pos h2, List.length_cons]; omega
    rw [if_neg h2, if_neg h2]
    by_cases h3 : c = 98
    · rw [if_pos h3, if_pos h3, List.length_cons]; omega
    rw [if_neg h3, if_neg h3]
    by_cases h4 : c = 116
    · rw [if_pos h4, if_pos h4, List.length_cons, n1 (c4 h4)]
      obtain ⟨g, hg⟩ := Option.isSome_iff_exists.1 (hx.goal (c4 h4))
      have : ((placeP st.labs (x.goal.getD 0)).getD 0) < 10000 := by
        rw [hg]
        simp only [Option.getD_some]
        cases hh : placeP st.labs g with
        | none => simp
        | some p => simpa using hp g p hg hh
      have := small_itoa this
      omega
    rw [if_neg h4, if_neg h4]
    by_cases h5 : c = 114
    · rw [if_pos h5, if_pos h5, n2 (c5 h5)]
      obtain ⟨nm, hnm⟩ := Option.isSome_iff_exists.1 (hx.call (c5 h5))
      rw [hnm]
      simp only [Option.getD_some]
      exact hr nm hnm
    · rw [if_neg h5, if_neg h5, n3 (fun hk => ?_) (fun hk => ?_)]
      · omega
      · exact h4 (by
          rcases ord_cases hx.op with ⟨e, _, _, _, k⟩ | ⟨e, _, _, _, k⟩ | ⟨e, _, _, _, k, _⟩ | ⟨e, _, _, _, k, _⟩ | ⟨e, _, _, _, k⟩ | ⟨e, _, _, _, k⟩ | ⟨e, _, _, _, k⟩ | ⟨e, _, _, _, k⟩ | ⟨e, _, _, _, k⟩ | ⟨e, _, _, _, k⟩ | ⟨e, _, _, _, k⟩ | ⟨e, _, _, _, k⟩ | ⟨e, _, _, _, k⟩ | ⟨e, _, _, _, k⟩ <;> rw [k] at hk <;> first | (exact absurd hk (by decide)) | (rw [e] at hc; simp only [List.mem_cons, List.not_mem_nil, or_false] at hc; first | exact hc | exact hc.resolve_left h2 | exact (hc.resolve_left h2).resolve_left h3))
      · exact h5 (by
          rcases ord_cases hx.op with ⟨e, _, _, _, k⟩ | ⟨e, _, _, _, k⟩ | ⟨e, _, _, _, k, _⟩ | ⟨e, _, _, _, k, _⟩ | ⟨e, _, _, _, k⟩ | ⟨e, _, _, _, k⟩ | ⟨e, _, _, _, k⟩ | ⟨e, _, _, _, k⟩ | ⟨e, _, _, _, k⟩ | ⟨e, _, _, _, k⟩ | ⟨e, _, _, _, k⟩ | ⟨e, _, _, _, k⟩ | ⟨e, _, _, _, k⟩ | ⟨e, _, _, _, k⟩ <;> rw [k] at hk <;> first | (exact absurd hk (by decide)) | (rw [e] at hc; simpa using hc))
  have hsum : sumL (partsL rt (linkP names st.labs x)) ≤ sumC x (ordL x.m.op) := by
    unfold partsL sumC
    rw [e1]
    exact sum_le _ hpart
  have hnil : partsL rt (linkP names st.labs x) = [] ↔ ordL x.m.op = [] := by
    unfold partsL
    rw [e1, List.map_eq_nil_iff]
  have hlen : (partsL rt (linkP names st.labs x)).length = (ordL x.m.op).length := by
    unfold partsL
    rw [e1, List.length_map]
  unfold lineL costI
  rw [e1]
  simp only [List.length_append, List.length_cons, List.length_nil]
  by_cases h0 : ordL x.m.op = []
  · rw [if_pos (hnil.2 h0), if_pos h0]
    simp
    omega
  · rw [if_neg (fun e => h0 (hnil.1 e)), if_neg h0, List.length_cons, join_sum _ (fun e => h0 (hnil.1 e)), hlen]
    omega
/-- The text of a routine's code that has been read. -/
theorem text_cost {names : List (List UInt8)} {st : PSt} {rt : Int → List UInt8} (hg : FineS st) (hs : settleP st = none) (hc : st.code.length ≤ 5000) (hr : ∀ x ∈ st.code, ∀ c, x.call = some c → (rt ((findP names c).getD 0 : Nat)).length ≤ c.length) : (textL rt (linked names st)).length ≤ costS st := by
  have hlen : (linked names st).length = st.code.length := by unfold linked; rw [List.length_map]
  have hplace : ∀ x ∈ st.code, ∀ g, x.goal = some g → ∃ p, placeP st.labs g = some p ∧ p < st.code.length := fun x hx g hgx => by
    unfold settleP at hs
    rw [List.findIdx?_eq_none_iff] at hs
    have hl := hs x hx
    unfold lostP at hl
    rw [hgx] at hl
    simp only at hl
    cases hp : placeP st.labs g with
    | none => rw [hp] at hl; cases hl
    | some p =>
      rw [hp] at hl
      simp only [decide_eq_false_iff_not] at hl
      exact ⟨p, rfl, by omega⟩
  have hline : ∀ x ∈ st.code, (lineL rt (linkP names st.labs x)).length ≤ costI x := fun x hx => by
    refine line_cost_le (hg x hx) (fun g p hgx hp => ?_) (hr x hx)
    obtain ⟨q, hq, hq2⟩ := hplace x hx g hgx
    rw [hp] at hq
    cases hq
    omega
  have hto : ∀ k, k ≤ st.code.length → (textTo rt (linked names st) k).length ≤ ((st.code.take k).map costI).sum + 7 * ((List.range k).filter (markL (linked names st))).length := by
    intro k
    induction k with
    | zero => intro _; simp [textTo_zero]
    | succ k ih =>
      intro hk
      have h1 := ih (by omega)
      have hx : st.code[k]? = some (st.code[k]'(by omega)) := List.getElem?_eq_getElem _
      have hl : (linked names st)[k]? = some (linkP names st.labs (st.code[k]'(by omega))) := by unfold linked; rw [List.getElem?_map, hx]; rfl
      have h2 := hline _ (List.getElem_mem (show k < st.code.length by omega))
      rw [textTo_succ, List.length_append, List.take_succ_eq_append_getElem (by omega), List.map_append, List.sum_append, List.range_succ, List.filter_append, List.length_append]
      unfold pieceL
      rw [List.length_append, List.getD_eq_getElem?_getD, hl, Option.getD_some]
      have h3 : (if markL (linked names st) k = true then labelL k else []).length ≤ 7 * ([k].filter (markL (linked names st))).length := by
        rw [List.filter_cons]
        by_cases hm : markL (linked names st) k = true
        · rw [if_pos hm, if_pos hm]
          unfold labelL
          have := small_itoa (n := k) (by omega)
          simp only [List.length_append, List.length_cons, List.length_nil, List.filter_nil]
          omega
        · rw [if_neg hm, if_neg hm]
          simp
      simp only [List.map_cons, List.map_nil, List.sum_cons, List.sum_nil]
      omega
  have hmark : ((List.range st.code.length).filter (markL (linked names st))).length ≤ st.labs.length := by
    have := sub_len ((List.range st.code.length).filter (markL (linked names st))) (st.labs.map fun y => y.2) (List.nodup_range.filter _) (fun i hi => by
      rw [List.mem_filter] at hi
      have hm := hi.2
      unfold markL at hm
      rw [List.any_eq_true] at hm
      obtain ⟨m, hmm, hm⟩ := hm
      rw [Bool.and_eq_true, beq_iff_eq, beq_iff_eq] at hm
      unfold linked at hmm
      obtain ⟨x, hx, rfl⟩ := List.mem_map.1 hmm
      have hop := (link_goal (names := names) (st := st) (x := x)).1
      rw [hop] at hm
      have hgx := (hg x hx).goal hm.1
      obtain ⟨g, hgx⟩ := Option.isSome_iff_exists.1 hgx
      have hn := (link_n (names := names) (st := st) (hg x hx)).1 hm.1
      rw [hm.2, hgx] at hn
      obtain ⟨p, hp, _⟩ := hplace x hx g hgx
      simp only [Option.getD_some] at hn
      rw [hp] at hn
      simp only [Option.getD_some] at hn
      have : i = p := by omega
      subst this
      unfold placeP at hp
      obtain ⟨y, hy, e⟩ := Option.map_eq_some_iff.1 hp
      exact List.mem_map.2 ⟨y, List.mem_reverse.1 (List.mem_of_find?_eq_some hy), e⟩)
    rwa [List.length_map] at this
  have h := hto st.code.length (Nat.le_refl _)
  rw [List.take_length] at h
  unfold textL costS
  rw [hlen]
  omega
/-- The text of an image that has been read. -/
theorem apart_cost {x : WSt} {n : Nat} (hok : WOk x n) (hn : n ≤ 1000000) (hg : FineW x) (hb : ∀ k, k < x.secs.length → secBad x.secs k = 0) : (apartL x.globs (routsP x.secs)).length ≤ costW x := by
  have hnames : namesL (routsP x.secs) = secNames x.secs := by
    unfold namesL routsP secNames
    rw [List.map_map]
    refine List.map_congr_left fun y _ => ?_
    show (mkS y.name).data.toList = y.name
    rw [mkS_list]
  have hsec : ∀ y ∈ x.secs, (routL (routsP x.secs) (routP (secNames x.secs) y)).length ≤ secCost y := fun y hy => by
    obtain ⟨j, hj⟩ := List.mem_iff_getElem?.1 hy
    have h1 := hb j (List.getElem?_eq_some_iff.1 hj).1
    unfold secBad at h1
    rw [hj] at h1
    obtain ⟨h2, h3⟩ := sect_zero h1
    have hyo := hok.2.2.2 y hy
    have hlok := linked_ok (names := secNames x.secs) h2 hyo.2 hn (by unfold secNames; rw [List.length_map]; have := hok.2.1; omega)
    have hrd : readL (bytesS (linked (secNames x.secs) y.st)) = ((0, 0), linked (secNames x.secs) y.st) := by
      have := read_codeL h3 hlok
      unfold codeL at this
      rwa [if_pos h3] at this
    have hl5 := ((code_ok_iff _).1 h3).1
    have hlen : (linked (secNames x.secs) y.st).length = y.st.code.length := by unfold linked; rw [List.length_map]
    have hcall : ∀ z ∈ y.st.code, ∀ c, z.call = some c → (rtN (namesL (routsP x.secs)) ((findP (secNames x.secs) c).getD 0 : Nat)).length ≤ c.length := fun z hz c hc => by
      have hfound : ∃ p, findP (secNames x.secs) c = some p := by
        cases hp : findP (secNames x.secs) c with
        | some p => exact ⟨p, rfl⟩
        | none =>
          obtain ⟨i, hi⟩ := List.mem_iff_getElem?.1 hz
          have := sect_lost h2 hi hc hp
          rw [show sectP (secNames x.secs) y.st = 0 from h1] at this
          cases this
      obtain ⟨p, hp⟩ := hfound
      rw [hp, Option.getD_some, hnames]
      unfold findP at hp
      obtain ⟨hpl, he, _⟩ := List.findIdx?_eq_some_iff_getElem.1 hp
      unfold rtN
      rw [if_neg (by omega), Int.toNat_natCast, List.getD_eq_getElem?_getD, List.getElem?_eq_getElem hpl, Option.getD_some]
      simp only [beq_iff_eq] at he
      rw [he]
      exact Nat.le_refl _
    have ht := text_cost (names := secNames x.secs) (rt := rtN (namesL (routsP x.secs))) (hg y hy) h2 (by omega) hcall
    unfold routL routHead secCost
    show (_ ++ textL (rtN (namesL (routsP x.secs))) (readL (bytesS (linked (secNames x.secs) y.st))).2).length ≤ _
    rw [hrd]
    simp only [List.length_append, List.length_cons, List.length_nil]
    have hnm : (routP (secNames x.secs) y).name.data.toList.length = y.name.length := by
      show (mkS y.name).data.toList.length = y.name.length
      rw [mkS_list]
    omega
  unfold apartL globsTo routsTo costW
  rw [List.take_length, List.take_length, List.length_append, sumL_flatten, sumL_flatten]
  have h2 : sumL ((routsP x.secs).map (routL (routsP x.secs))) ≤ (x.secs.map secCost).sum := by
    have e : (routsP x.secs).map (routL (routsP x.secs)) = x.secs.map fun y => routL (routsP x.secs) (routP (secNames x.secs) y) := by
      conv => lhs; arg 2; unfold routsP
      rw [List.map_map]
      rfl
    rw [e]
    exact sum_le _ hsec
  omega
/-- What reading a whole text comes to. -/
theorem whole_says (t : List UInt8) : ((wholeP t).2.1 ≠ 0 ∧ (wholeP t).1 = ([], [])) ∨
    ∃ gs rs, wholeP t = ((gs, rs), (0, 0)) ∧ (machF gs rs).1 = 0 ∧ GOk gs ∧ GIn gs ∧ ROk rs ∧ (apartL gs rs).length ≤ 2 * (t.length + 1) := by
  by_cases h8 : 80000 < t.length
  · have : wholeP t = (([], []), (2, 0)) := by unfold wholeP; rw [if_pos h8]
    rw [this]
    exact .inl ⟨by decide, rfl⟩
  obtain ⟨r, hr⟩ : ∃ r, stepsW 0 ⟨[], []⟩ (linesL t) = r := ⟨_, rfl⟩
  by_cases h0 : r.1.1 = 0
  · have he : wholeP t = imgP r.2 := by unfold wholeP; rw [if_neg h8, hr, if_neg (by simp [h0])]
    by_cases hf : (firstBad (secBad r.2.secs) r.2.secs.length).1 = 0
    · have hbad : ∀ k, k < r.2.secs.length → secBad r.2.secs k = 0 := fun k hk => firstBad_zeroA hf k hk
      by_cases hm : (machF r.2.globs (routsP r.2.secs)).1 = 0
      · refine .inr ⟨r.2.globs, routsP r.2.secs, ?_, hm, ?_⟩
        · rw [he]
          unfold imgP
          rw [if_neg (by simp [hf]), if_pos hm]
        · have hst := steps_cost (linesL t) 0 ⟨[], []⟩ (fun y hy => by simp at hy) (by rw [hr]; exact h0)
          rw [hr] at hst
          have hok : WOk r.2 (linesL t).length := by
            have key : ∀ i, i ≤ (linesL t).length → (∃ x, WStepsTo (linesL t) i x) ∨ (stepsW 0 ⟨[], []⟩ (linesL t)).1.1 ≠ 0 := by
              intro i
              induction i with
              | zero => intro _; exact .inl ⟨_, WStepsTo.zero _⟩
              | succ i ih =>
                intro hi
                rcases ih (by omega) with ⟨x, hx⟩ | h
                · obtain ⟨l, hl⟩ : ∃ l, (linesL t)[i]? = some l := ⟨(linesL t)[i]'(by omega), List.getElem?_eq_getElem _⟩
                  obtain ⟨n1, n2, n3⟩ := hx.next hl (Nat.le_trans (lines_size (List.mem_of_getElem? hl)) (by omega))
                  by_cases e : l = []
                  · exact .inl ⟨x, n1 e⟩
                  · by_cases e0 : (wlineP x l).1 = 0
                    · exact .inl ⟨_, n2 e e0⟩
                    · exact .inr (by rw [n3 e e0]; exact e0)
                · exact .inr h
            rcases key (linesL t).length (Nat.le_refl _) with ⟨x, hx⟩ | h
            · have hd := hx.done (Nat.le_refl _)
              rw [hr] at hd
              have : r.2 = x := by rw [hd]
              rw [this]
              exact hx.2
            · rw [hr] at h
              exact absurd h0 h
          have hll := lines_len t
          obtain ⟨w1, w2⟩ := whole_ok hok (by omega) hbad
          have hc := apart_cost hok (by omega) hst.1 hbad
          have hs := lines_cost t
          have hz : costW ⟨[], []⟩ = 0 := rfl
          refine ⟨w1, fun g hg => (hok.2.2.1 g hg).2.2.1, w2, ?_⟩
          have := hst.2
          omega
      · refine .inl ?_
        have : wholeP t = (([], []), machF r.2.globs (routsP r.2.secs)) := by
          rw [he]
          unfold imgP
          rw [if_neg (by simp [hf]), if_neg hm]
        rw [this]
        exact ⟨hm, rfl⟩
    · refine .inl ?_
      have : wholeP t = (([], []), firstBad (secBad r.2.secs) r.2.secs.length) := by
        rw [he]
        unfold imgP
        rw [if_pos hf]
      rw [this]
      exact ⟨hf, rfl⟩
  · have : wholeP t = (([], []), (r.1.1, ((r.1.2 : Nat) : Int))) := by
      unfold wholeP
      rw [if_neg h8, hr, if_pos h0]
    rw [this]
    exact .inl ⟨h0, rfl⟩
end Go.Proofs.YtdldochhondifaaGreatDoor
