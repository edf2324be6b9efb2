/-
  Texts of the claim AsmWholeSays (ArS): what each proves stands at its theorems.
  Conditions: as the theorems say.
-/
import Derived.Maps.OwnOps
import Derived.Maps.OwnSet
import Derived.Maps.OwnIn
import Derived.Maps.Keyed
import Derived.Test.YtdldochhondifaaGreatDoorVArR
import Derived.Test.YtdldochhondifaaGreatDoorVArB
import Derived.Test.YtdldochhondifaaGreatDoorVMacM
import Derived.Test.YtdldochhondifaaGreatDoorVMcD
namespace Go.Proofs.YtdldochhondifaaGreatDoor
open Go Go.RowKit Go.Lib

/-- An instruction as a line tells it: where it goes, whom it calls. -/
structure Ins where
  m : Mac
  goal : Option Int
  call : Option (List UInt8)
/-- What has been read: instructions, labels and their places. -/
structure PSt where
  code : List Ins
  labs : List (Int × Nat)
/-- One part of an instruction, told into the field of a letter. -/
def fieldP (named : Bool) (x : Ins) (c : UInt8) (s : List UInt8) : Option Ins :=
  if c = 100 then (regI s).map fun n => ⟨{ x.m with dst := n }, x.goal, x.call⟩
  else if c = 97 then (regI s).map fun n => ⟨{ x.m with a := n }, x.goal, x.call⟩
  else if c = 98 then (regI s).map fun n => ⟨{ x.m with b := n }, x.goal, x.call⟩
  else if c = 116 then (labI s).map fun n => ⟨x.m, some n, x.call⟩
  else if c = 114 ∧ named = true then (if nameS (mkS s) = true then some ⟨x.m, x.goal, some s⟩ else none)
  else (numI s).map fun n => ⟨{ x.m with n := n }, x.goal, x.call⟩
def fieldsP (named : Bool) : Ins → List UInt8 → List (List UInt8) → Option Ins
  | x, c :: cs, s :: ss => (fieldP named x c s).bind fun y => fieldsP named y cs ss
  | x, _, _ => some x
/-- An instruction that is told by nothing but its number. -/
def ins0 (op : Int) : Ins := ⟨⟨op, 0, 0, 0, 0⟩, none, none⟩
/-- Does this instruction fit the word and the parts? -/
def fitP (word : List UInt8) (p : List (List UInt8)) (op : Int) : Bool :=
  decide (wordL op = word) && decide ((ordL op).length = p.length) && (!decide (5 ≤ op ∧ op ≤ 32) || ((regI (p.getD 2 [])).isSome == decide (op < 19)))
def opP (word : List UInt8) (p : List (List UInt8)) : Option Int :=
  ((List.range 47).find? fun (k : Nat) => fitP word p ((k : Int) + 1)).map fun (k : Nat) => (k : Int) + 1
/-- One line of code: a fault's code, and what has been read then. -/
def wordP (s : List UInt8) : List UInt8 := s.takeWhile (fun c => !bl c)
def tailP (s : List UInt8) : List UInt8 := (s.dropWhile (fun c => !bl c)).dropWhile bl
def lineP (named : Bool) (st : PSt) (s : List UInt8) : Int × PSt :=
  if s.getLast? = some 58 then
    match labI s.dropLast with
    | none => (1, st)
    | some n => if (st.labs.any fun x => x.1 == n) = true then (7, st) else (0, ⟨st.code, st.labs ++ [(n, st.code.length)]⟩)
  else
    match opP (wordP s) (cutsL (tailP s)) with
    | none => (1, st)
    | some op =>
      match fieldsP named (ins0 op) (ordL op) (cutsL (tailP s)) with
      | none => (1, st)
      | some x => (0, ⟨st.code ++ [x], st.labs⟩)
/-- Where a label lies. -/
def placeP (labs : List (Int × Nat)) (g : Int) : Option Nat := (labs.reverse.find? fun x => x.1 == g).map fun x => x.2
/-- Does this instruction go nowhere? -/
def lostP (labs : List (Int × Nat)) (many : Nat) (x : Ins) : Bool :=
  match x.goal with
  | none => false
  | some g => match placeP labs g with
    | none => true
    | some at_ => decide (many ≤ at_)
def settleP (st : PSt) : Option Nat := st.code.findIdx? (lostP st.labs st.code.length)
def setP (labs : List (Int × Nat)) (x : Ins) : Mac :=
  match x.goal with
  | none => x.m
  | some g => { x.m with n := ((placeP labs g).getD 0 : Nat) }
def settled (st : PSt) : List Mac := st.code.map (setP st.labs)
/-- Line after line: a fault's code and the line's number, or what has been read. -/
def stepsP (named : Bool) : Nat → PSt → List (List UInt8) → (Int × Nat) × PSt
  | _, st, [] => ((0, 0), st)
  | i, st, l :: ls =>
    if l = [] then stepsP named (i + 1) st ls
    else if (lineP named st l).1 = 0 then stepsP named (i + 1) (lineP named st l).2 ls
    else (((lineP named st l).1, i), st)
/-- A line as 'lines' hands it on: not empty, no blank at its ends, no remark, one line. -/
def LineOk (s : List UInt8) : Prop := s ≠ [] ∧ (∀ c, s.head? = some c → bl c = false) ∧ (∀ c, s.getLast? = some c → bl c = false) ∧ (∀ b ∈ s, b ≠ 10) ∧ (∀ b ∈ s, b ≠ 59)

theorem fit_range {word : List UInt8} {p : List (List UInt8)} {op : Int} (h : opP word p = some op) : isOp op = true ∧ fitP word p op = true := by
  unfold opP at h
  cases hf : (List.range 47).find? fun (k : Nat) => fitP word p ((k : Int) + 1) with
  | none => rw [hf] at h; cases h
  | some k =>
    rw [hf, Option.map_some] at h
    injection h with h
    have h1 := List.find?_some hf
    have h2 := List.mem_of_find?_eq_some hf
    rw [List.mem_range] at h2
    subst h
    exact ⟨(isOp_iff _).2 ⟨by omega, by omega⟩, h1⟩
/-- The words by their place: a word's first place. -/
def wordAt (word : List UInt8) : Int :=
  match wordTab.findIdx? (fun x => decide (x = word)) with
  | some i => (i : Int)
  | none => -1
theorem wordL_inj {op op' : Int} (h : isOp op = true) (h' : isOp op' = true) (e : wordL op = wordL op') : plainI op = plainI op' := by
  obtain ⟨a, b⟩ := (isOp_iff op).1 h
  obtain ⟨c, d⟩ := (isOp_iff op').1 h'
  have key : ∀ k k' : Fin 48, 1 ≤ k.val → 1 ≤ k'.val → wordL (k.val : Int) = wordL (k'.val : Int) → plainI (k.val : Int) = plainI (k'.val : Int) := by decide +kernel
  have := key ⟨op.toNat, by omega⟩ ⟨op'.toNat, by omega⟩ (by simp; omega) (by simp; omega)
  simp only [show ((op.toNat : Nat) : Int) = op from by omega, show ((op'.toNat : Nat) : Int) = op' from by omega] at this
  exact this e
theorem opP_some {word : List UInt8} {p : List (List UInt8)} {op : Int} (h : isOp op = true) (hf : fitP word p op = true) (hu : ∀ op', isOp op' = true → op' < op → fitP word p op' = false) : opP word p = some op := by
  obtain ⟨a, b⟩ := (isOp_iff op).1 h
  unfold opP
  have : (List.range 47).find? (fun (k : Nat) => fitP word p ((k : Int) + 1)) = some (op.toNat - 1) := by
    rw [List.find?_range_eq_some]
    refine ⟨by rw [show ((op.toNat - 1 : Nat) : Int) + 1 = op by omega]; exact hf, by rw [List.mem_range]; omega, fun j hj => ?_⟩
    rw [hu _ ((isOp_iff _).2 ⟨by omega, by omega⟩) (by omega)]
    rfl
  rw [this, Option.map_some]
  congr 1
  omega
theorem opP_none {word : List UInt8} {p : List (List UInt8)} (hu : ∀ op', isOp op' = true → fitP word p op' = false) : opP word p = none := by
  unfold opP
  rw [Option.map_eq_none_iff, List.find?_eq_none]
  intro k hk
  rw [List.mem_range] at hk
  rw [hu _ ((isOp_iff _).2 ⟨by omega, by omega⟩)]
  simp
theorem fit_word {word : List UInt8} {p : List (List UInt8)} {op : Int} (h : wordL op ≠ word) : fitP word p op = false := by
  unfold fitP
  rw [decide_eq_false h]
  rfl
theorem word_mem {op : Int} (h : isOp op = true) : wordL op ∈ wordTab := by
  have h1 := (isOp_iff op).1 h
  unfold wordL
  have hl : (plainI op).toNat < wordTab.length := by
    have := plain_range h
    show _ < 48
    omega
  rw [List.getD_eq_getElem?_getD, List.getElem?_eq_getElem hl]
  exact List.getElem_mem hl
theorem word_at {op : Int} (h : (1 ≤ op ∧ op ≤ 18) ∨ (33 ≤ op ∧ op ≤ 47)) : wordAt (wordL op) = op ∧ isOp op = true ∧ plainI op = op := by
  have key : ∀ k : Fin 48, ((1 ≤ k.val ∧ k.val ≤ 18) ∨ (33 ≤ k.val ∧ k.val ≤ 47)) → wordAt (wordL (k.val : Int)) = (k.val : Int) := by decide +kernel
  have := key ⟨op.toNat, by omega⟩ (by simp; omega)
  simp only [show ((op.toNat : Nat) : Int) = op from by omega] at this
  refine ⟨this, (isOp_iff op).2 (by omega), ?_⟩
  unfold plainI
  rw [if_neg (by omega)]
theorem wordAt_of {word : List UInt8} (hw : word ≠ []) : wordAt word = -1 ∧ word ∉ wordTab ∨ ∃ op : Int, ((1 ≤ op ∧ op ≤ 18) ∨ (33 ≤ op ∧ op ≤ 47)) ∧ wordL op = word := by
  unfold wordAt
  cases h : wordTab.findIdx? (fun x => decide (x = word)) with
  | none =>
    rw [List.findIdx?_eq_none_iff] at h
    exact .inl ⟨rfl, fun hm => by have := h word hm; simp at this⟩
  | some i =>
    obtain ⟨hi, he, _⟩ := List.findIdx?_eq_some_iff_getElem.1 h
    have he' := of_decide_eq_true he
    have hi48 : i < 48 := hi
    have hg : wordTab.getD i [] = word := by rw [List.getD_eq_getElem?_getD, List.getElem?_eq_getElem hi]; exact he'
    have hc : (1 ≤ i ∧ i ≤ 18) ∨ (33 ≤ i ∧ i ≤ 47) := by
      have key : ∀ k : Fin 48, ¬ ((1 ≤ k.val ∧ k.val ≤ 18) ∨ (33 ≤ k.val ∧ k.val ≤ 47)) → wordTab.getD k.val [] = [] := by decide +kernel
      by_cases hc : (1 ≤ i ∧ i ≤ 18) ∨ (33 ≤ i ∧ i ≤ 47)
      · exact hc
      · exact absurd (hg.symm.trans (key ⟨i, hi48⟩ hc)) hw
    refine .inr ⟨(i : Int), by omega, ?_⟩
    unfold wordL plainI
    rw [if_neg (by omega), Int.toNat_natCast]
    exact hg
theorem ord_arith {op : Int} (h : 5 ≤ op ∧ op ≤ 32) : (ordL op).length = 3 := by
  unfold ordL fldL
  rw [if_neg (by omega), if_neg (by omega)]
  by_cases h1 : op ≤ 18
  · rw [if_pos (by omega)]; rfl
  · rw [if_neg (by omega), if_pos (by omega)]; rfl
/-- The number that the program takes for a word and parts. -/
def pickP (op : Int) (p : List (List UInt8)) : Int := if 5 ≤ op ∧ op ≤ 18 ∧ p.length = 3 ∧ regI (p.getD 2 []) = none then op + 14 else op
theorem opP_cases (word : List UInt8) (p : List (List UInt8)) (hw : word ≠ []) :
    (wordAt word = -1 ∧ opP word p = none) ∨
    (∃ op : Int, wordAt word = op ∧ ((1 ≤ op ∧ op ≤ 18) ∨ (33 ≤ op ∧ op ≤ 47)) ∧ wordL op = word ∧ isOp (pickP op p) = true ∧
      opP word p = (if p.length = (ordL (pickP op p)).length then some (pickP op p) else none)) := by
  rcases wordAt_of hw with ⟨h1, h2⟩ | ⟨op, hr, rfl⟩
  · exact .inl ⟨h1, opP_none (fun op' h => fit_word (fun e => h2 (e ▸ word_mem h)))⟩
  · obtain ⟨w1, w2, w3⟩ := word_at hr
    have hother : ∀ op', isOp op' = true → plainI op' ≠ op → fitP (wordL op) p op' = false := fun op' h hne => fit_word (fun e => hne (by rw [wordL_inj h w2 e, w3]))
    have hpi : ∀ op', isOp op' = true → plainI op' = op → op' = op ∨ (op' = op + 14 ∧ 5 ≤ op ∧ op ≤ 18) := by
      intro op' h he
      have := (isOp_iff op').1 h
      unfold plainI at he
      split at he
      · exact .inr ⟨by omega, by omega, by omega⟩
      · exact .inl he
    have hisP : isOp (pickP op p) = true := by
      rw [isOp_iff] at w2 ⊢
      unfold pickP
      split <;> omega
    refine .inr ⟨op, w1, hr, rfl, hisP, ?_⟩
    by_cases ha : 5 ≤ op ∧ op ≤ 18
    · have hl1 : (ordL op).length = 3 := ord_arith ⟨ha.1, by omega⟩
      have hl2 : (ordL (op + 14)).length = 3 := ord_arith ⟨by omega, by omega⟩
      have hw14 : wordL (op + 14) = wordL op := by
        unfold wordL plainI
        rw [if_pos (by omega), if_neg (by omega)]
        congr 2
        omega
      have i14 : isOp (op + 14) = true := (isOp_iff _).2 (by omega)
      have hf : fitP (wordL op) p op = (decide (3 = p.length) && ((regI (p.getD 2 [])).isSome == true)) := by
        unfold fitP
        rw [hl1, decide_eq_true (show wordL op = wordL op from rfl), decide_eq_true (show 5 ≤ op ∧ op ≤ 32 by omega), decide_eq_true (show op < 19 by omega)]
        simp
      have hf14 : fitP (wordL op) p (op + 14) = (decide (3 = p.length) && ((regI (p.getD 2 [])).isSome == false)) := by
        unfold fitP
        rw [hl2, hw14, decide_eq_true (show wordL op = wordL op from rfl), decide_eq_true (show 5 ≤ op + 14 ∧ op + 14 ≤ 32 by omega), decide_eq_false (show ¬ op + 14 < 19 by omega)]
        simp
      by_cases h3 : p.length = 3
      · cases hreg : regI (p.getD 2 []) with
        | none =>
          have hp : pickP op p = op + 14 := by unfold pickP; rw [if_pos ⟨ha.1, ha.2, h3, hreg⟩]
          rw [hp, hl2, if_pos h3]
          refine opP_some i14 (by rw [hf14, hreg, h3]; rfl) (fun op' h hlt => ?_)
          by_cases he : plainI op' = op
          · rcases hpi op' h he with rfl | ⟨rfl, _⟩
            · rw [hf, hreg]; simp
            · omega
          · exact hother op' h he
        | some r =>
          have hp : pickP op p = op := by unfold pickP; rw [if_neg (by rw [hreg]; simp)]
          rw [hp, hl1, if_pos h3]
          refine opP_some w2 (by rw [hf, hreg, h3]; rfl) (fun op' h hlt => ?_)
          by_cases he : plainI op' = op
          · rcases hpi op' h he with rfl | ⟨rfl, _⟩ <;> omega
          · exact hother op' h he
      · have hp : pickP op p = op := by unfold pickP; rw [if_neg (fun h => h3 h.2.2.1)]
        rw [hp, hl1, if_neg h3]
        refine opP_none (fun op' h => ?_)
        by_cases he : plainI op' = op
        · rcases hpi op' h he with rfl | ⟨rfl, _⟩
          · rw [hf, decide_eq_false (fun e => h3 e.symm)]; rfl
          · rw [hf14, decide_eq_false (fun e => h3 e.symm)]; rfl
        · exact hother op' h he
    · have hp : pickP op p = op := by unfold pickP; rw [if_neg (fun h => ha ⟨h.1, h.2.1⟩)]
      have hf : fitP (wordL op) p op = decide ((ordL op).length = p.length) := by
        unfold fitP
        rw [decide_eq_true (show wordL op = wordL op from rfl), decide_eq_false (show ¬ (5 ≤ op ∧ op ≤ 32) by omega)]
        simp
      rw [hp]
      split
      · rename_i hl
        refine opP_some w2 (by rw [hf]; exact decide_eq_true hl.symm) (fun op' h hlt => ?_)
        by_cases he : plainI op' = op
        · rcases hpi op' h he with rfl | ⟨rfl, _⟩ <;> omega
        · exact hother op' h he
      · rename_i hl
        refine opP_none (fun op' h => ?_)
        by_cases he : plainI op' = op
        · rcases hpi op' h he with rfl | ⟨rfl, h5⟩
          · rw [hf]; exact decide_eq_false (fun e => hl e.symm)
          · exact absurd h5 ha
        · exact hother op' h he
theorem drop_head {p : UInt8 → Bool} : ∀ {l : List UInt8} {c : UInt8}, (l.dropWhile p).head? = some c → p c = false
  | [], c, h => by simp at h
  | a :: l, c, h => by
    rw [List.dropWhile_cons] at h
    split at h
    · exact drop_head h
    · rename_i ha
      simp only [List.head?_cons, Option.some.injEq] at h
      subst h
      simpa using ha
theorem drop_id {p : UInt8 → Bool} {l : List UInt8} (h : ∀ c, l.head? = some c → p c = false) : l.dropWhile p = l := by
  cases l with
  | nil => rfl
  | cons a l => rw [List.dropWhile_cons, h a rfl]; rfl
theorem suffix_last {t l : List UInt8} (h : t <:+ l) (hne : t ≠ []) : t.getLast? = l.getLast? := by
  obtain ⟨a, rfl⟩ := h
  rw [List.getLast?_append]
  cases ht : t.getLast? with
  | none => exact absurd (List.getLast?_eq_none_iff.1 ht) hne
  | some x => rfl
theorem mem_trim {l : List UInt8} {b : UInt8} (h : b ∈ trimS l) : b ∈ l := by
  unfold trimS at h
  rw [List.mem_reverse] at h
  have h1 := (List.dropWhile_suffix bl).subset h
  rw [List.mem_reverse] at h1
  exact (List.dropWhile_suffix bl).subset h1
theorem trim_head {l : List UInt8} {c : UInt8} (h : (trimS l).head? = some c) : bl c = false := by
  unfold trimS at h
  rw [List.head?_reverse] at h
  have hs : (l.dropWhile bl).reverse.dropWhile bl <:+ (l.dropWhile bl).reverse := List.dropWhile_suffix bl
  have hne : (l.dropWhile bl).reverse.dropWhile bl ≠ [] := by intro e; rw [e] at h; simp at h
  rw [suffix_last hs hne, List.getLast?_reverse] at h
  exact drop_head h
theorem trim_last {l : List UInt8} {c : UInt8} (h : (trimS l).getLast? = some c) : bl c = false := by
  unfold trimS at h
  rw [List.getLast?_reverse] at h
  exact drop_head h
theorem trim_left {l : List UInt8} (h : ∀ c, l.getLast? = some c → bl c = false) : trimS l = l.dropWhile bl := by
  unfold trimS
  rw [drop_id, List.reverse_reverse]
  intro c hc
  rw [List.head?_reverse] at hc
  have hne : l.dropWhile bl ≠ [] := by intro e; rw [e] at hc; simp at hc
  rw [suffix_last (List.dropWhile_suffix bl) hne] at hc
  exact h c hc
theorem cut_id {l : List UInt8} (h : ∀ b ∈ l, b ≠ 59) : cutS l = l := take_none h
theorem mem_cut {l : List UInt8} {b : UInt8} (h : b ∈ cutS l) : b ∈ l ∧ b ≠ 59 := by
  unfold cutS at h
  refine ⟨(List.takeWhile_prefix _).subset h, ?_⟩
  have : ∀ {l : List UInt8}, b ∈ l.takeWhile (fun b => !(b == 59)) → b ≠ 59 := by
    intro l
    induction l with
    | nil => simp
    | cons a l ih =>
      intro hm
      rw [List.takeWhile_cons] at hm
      split at hm
      · rename_i ha
        rcases List.mem_cons.1 hm with rfl | hm
        · simpa using ha
        · exact ih hm
      · simp at hm
  exact this h
theorem cut_snoc (l : List UInt8) (a : UInt8) : cutS (l ++ [a]) = if (l.any (· == 59)) = true ∨ a = 59 then cutS l else cutS l ++ [a] := by
  unfold cutS
  induction l with
  | nil =>
    by_cases h : a = 59
    · subst h; simp
    · simp [h]
  | cons b l ih =>
    rw [List.cons_append, List.takeWhile_cons, List.takeWhile_cons]
    by_cases hb : b = 59
    · subst hb
      simp
    · simp only [beq_eq_false_iff_ne.2 hb, Bool.not_false, if_true, List.any_cons, Bool.false_or]
      rw [ih]
      split <;> rfl
theorem lines_ok {t l : List UInt8} (h : l ∈ linesL t) (hne : l ≠ []) : LineOk l := by
  unfold linesL at h
  obtain ⟨x, hx, rfl⟩ := List.mem_map.1 h
  have h10 := splitC_free 10 t [] (by simp) x hx
  unfold cleanS at hne ⊢
  exact ⟨hne, fun c => trim_head, fun c => trim_last, fun b hb => h10 b (mem_cut (mem_trim hb)).1, fun b hb => (mem_cut (mem_trim hb)).2⟩
theorem trim_len (l : List UInt8) : (trimS l).length ≤ l.length := by
  unfold trimS
  rw [List.length_reverse]
  have h1 := (List.dropWhile_suffix bl (l := (l.dropWhile bl).reverse)).length_le
  have h2 := (List.dropWhile_suffix bl (l := l)).length_le
  rw [List.length_reverse] at h1
  omega
theorem lines_size {t l : List UInt8} (h : l ∈ linesL t) : l.length ≤ t.length := by
  unfold linesL at h
  obtain ⟨x, hx, rfl⟩ := List.mem_map.1 h
  have h1 := splitC_size 10 t [] x hx
  have h2 : (cutS x).length ≤ x.length := (List.takeWhile_prefix _).length_le
  have h3 := trim_len (cutS x)
  unfold cleanS
  simp at h1
  omega
theorem lines_len (t : List UInt8) : (linesL t).length ≤ t.length + 1 := by
  unfold linesL
  rw [List.length_map]
  exact splitC_len 10 t []
/-- A text of one line, without a remark. -/
theorem lines_one {t : List UInt8} (h1 : ∀ b ∈ t, b ≠ 10) (h2 : ∀ b ∈ t, b ≠ 59) : linesL t = [trimS t] := by
  unfold linesL cleanS
  rw [splitC_none 10 t [] h1, List.nil_append, List.map_cons, List.map_nil, cut_id h2]
theorem tail_trim {s : List UInt8} (h : LineOk s) : trimS (s.dropWhile (fun c => !bl c)) = tailP s ∧ ∀ b ∈ s.dropWhile (fun c => !bl c), b ≠ 10 ∧ b ≠ 59 := by
  obtain ⟨hne, h1, h2, h3, h4⟩ := h
  refine ⟨trim_left fun c hc => ?_, fun b hb => ?_⟩
  · have hn : s.dropWhile (fun c => !bl c) ≠ [] := by intro e; rw [e] at hc; simp at hc
    rw [suffix_last (List.dropWhile_suffix _) hn] at hc
    exact h2 c hc
  · have := (List.dropWhile_suffix (fun c => !bl c)).subset hb
    exact ⟨h3 b this, h4 b this⟩
theorem word_ne {s : List UInt8} (h : LineOk s) : wordP s ≠ [] := by
  obtain ⟨hne, h1, _⟩ := h
  unfold wordP
  cases s with
  | nil => exact absurd rfl hne
  | cons a l => rw [List.takeWhile_cons, h1 a rfl]; simp

theorem lo_step {l : List UInt8} {lo : Nat} (h : lo < l.length) (hb : bl (l.getD lo 0) = true) (hi : (l.drop lo).dropWhile bl = l.dropWhile bl) : (l.drop (lo + 1)).dropWhile bl = l.dropWhile bl := by
  rw [← hi, getD_drop0 l lo h, List.dropWhile_cons, if_pos hb]
theorem lo_done {l : List UInt8} {lo : Nat} (h : l.length ≤ lo ∨ bl (l.getD lo 0) = false) (hi : (l.drop lo).dropWhile bl = l.dropWhile bl) : l.drop lo = l.dropWhile bl := by
  rw [← hi]
  by_cases hl : lo < l.length
  · rcases h with h | h
    · omega
    · rw [getD_drop0 l lo hl, List.dropWhile_cons, h]
      rfl
  · rw [List.drop_eq_nil_of_le (by omega)]
    rfl
theorem hi_start {l : List UInt8} {lo : Nat} (h : l.drop lo = l.dropWhile bl) : (((l.take l.length).drop lo).reverse.dropWhile bl).reverse = trimS l := by
  rw [List.take_length, h]
  rfl
theorem take_snoc {l : List UInt8} {i : Nat} (h : i < l.length) : l.take (i + 1) = l.take i ++ [l.getD i 0] := by
  rw [List.take_add_one, List.getD_eq_getElem?_getD, List.getElem?_eq_getElem h]
  rfl
theorem hi_step {l : List UInt8} {lo hi : Nat} (h : lo ≤ hi) (hl : hi < l.length) (hb : bl (l.getD hi 0) = true) (hi' : (((l.take (hi + 1)).drop lo).reverse.dropWhile bl).reverse = trimS l) : (((l.take hi).drop lo).reverse.dropWhile bl).reverse = trimS l := by
  rw [← hi', take_snoc hl, List.drop_append_of_le_length (by rw [List.length_take]; omega), List.reverse_append, List.reverse_singleton, List.singleton_append, List.dropWhile_cons, if_pos hb]
theorem hi_done {l : List UInt8} {lo hi : Nat} (hh : hi ≤ l.length) (h : hi ≤ lo ∨ (lo < hi ∧ bl (l.getD (hi - 1) 0) = false)) (hi' : (((l.take hi).drop lo).reverse.dropWhile bl).reverse = trimS l) : (l.take hi).drop lo = trimS l := by
  rw [← hi']
  rcases h with h | ⟨h, hb⟩
  · rw [List.drop_eq_nil_of_le (by rw [List.length_take]; omega)]
    rfl
  · obtain ⟨k, rfl⟩ : ∃ k, hi = k + 1 := ⟨hi - 1, by omega⟩
    rw [Nat.add_sub_cancel] at hb
    rw [take_snoc (by omega), List.drop_append_of_le_length (by rw [List.length_take]; omega), List.reverse_append, List.reverse_singleton, List.singleton_append, List.dropWhile_cons, hb]
    simp
theorem cut_mk (l : List UInt8) (a b : Nat) : (mkS l).extract a b = mkS ((l.take b).drop a) := by
  rw [extract_eq, mkS_list, List.drop_take]
  rfl
end Go.Proofs.YtdldochhondifaaGreatDoor
namespace Go.Proofs.YtdldochhondifaaGreatDoor
open Go.RowKit

structure OutS (S : Nat → Prop) (w w' : World) : Prop where
  os : w'.os = w.os
  tape : w'.tape = w.tape
  output : w'.output = w.output
  size : w.heap.size ≤ w'.heap.size
  block : ∀ k, k < w.heap.size → ¬ S k → w'.heap[k]? = w.heap[k]?
theorem OutS.refl (S : Nat → Prop) (w : World) : OutS S w w := ⟨rfl, rfl, rfl, Nat.le_refl _, fun _ _ _ => rfl⟩
theorem OutS.trans {S S' : Nat → Prop} {a b c : World} (h : OutS S a b) (k : OutS S' b c) (hS : ∀ i, i < a.heap.size → S' i → S i) : OutS S a c :=
  ⟨k.os.trans h.os, k.tape.trans h.tape, k.output.trans h.output, Nat.le_trans h.size k.size, fun i hi hn => (k.block i (Nat.lt_of_lt_of_le hi h.size) (fun e => hn (hS i hi e))).trans (h.block i hi hn)⟩
theorem OutS.below {S : Nat → Prop} {a b : World} {B : Nat} (h : OutS S a b) (hB : B ≤ a.heap.size) (hS : ∀ i, S i → B ≤ i) : Below B a b :=
  ⟨h.os, h.tape, h.output, h.size, fun k hk => h.block k (by omega) (fun e => by have := hS k e; omega)⟩
theorem outS_of {S : Nat → Prop} {w w' : World} (h : Below w.heap.size w w') : OutS S w w' := ⟨h.os, h.tape, h.output, h.size, fun k hk _ => h.block k hk⟩
theorem outS_grown {S : Nat → Prop} {w w' : World} {row : Option Nat} (h : w.grownBy w' row) (hr : ∀ k, row = some k → S k) : OutS S w w' :=
  ⟨h.os, h.tape, h.output, h.size, fun k hk hn => h.block k hk (fun e => hn (hr k e.symm))⟩
theorem outS_set {S : Nat → Prop} (w : World) (g o : Nat) (u : Value) (hS : S g) : OutS S w (w.setCell ⟨g, o, none⟩ u) :=
  ⟨rfl, rfl, rfl, by simp, fun k _ hn => Below.heap_setCell w ⟨g, o, none⟩ u k (fun e => hn (by rw [e]; exact hS))⟩
theorem OutS.drewn {S : Nat → Prop} {a b : World} (h : OutS S a.drew b) : OutS S a b := ⟨h.os, h.tape, h.output, h.size, h.block⟩
theorem OutS.wider {S S' : Nat → Prop} {a b : World} (h : OutS S a b) (hS : ∀ i, i < a.heap.size → S i → S' i) : OutS S' a b := ⟨h.os, h.tape, h.output, h.size, fun k hk hn => h.block k hk (fun e => hn (hS k hk e))⟩
/-- A row stands as long as its block does. -/
theorem own_at {w w' : World} {base size n : Nat} {e : TypeId} {v : Value} {xs : List Value} (h : w.ownsRow base e size v n xs) (hk : ∀ k, v.ownBlock = some k → w'.heap[k]? = w.heap[k]?) : w'.ownsRow base e size v n xs := by
  obtain ⟨h1, h2⟩ := h
  refine ⟨h1, ?_⟩
  rcases h2 with h2 | ⟨g, cap, cur, e1, hg, hh, h3⟩
  · exact .inl h2
  · exact .inr ⟨g, cap, cur, e1, hg, (hk g (by rw [e1]; rfl)).trans hh, h3⟩
theorem own_lt {w : World} {base size n : Nat} {e : TypeId} {v : Value} {xs : List Value} (h : w.ownsRow base e size v n xs) {k : Nat} (hk : v.ownBlock = some k) : k < w.heap.size := by
  rcases h.2 with ⟨rfl, _⟩ | ⟨g, cap, cur, rfl, _, hh, _⟩
  · cases hk
  · cases hk
    exact (Array.getElem?_eq_some_iff.1 hh).1
theorem own_two {w : World} {b b' : Nat} {e e' : TypeId} {s s' n n' : Nat} {v v' : Value} {xs xs' : List Value} (h : w.ownsRow b e s v n xs) (h' : w.ownsRow b' e' s' v' n' xs') (hne : e ≠ e') : ∀ k, v.ownBlock = some k → v'.ownBlock ≠ some k := by
  intro k hk hk'
  rcases h.2 with ⟨rfl, _⟩ | ⟨g, cap, cur, rfl, _, hh, _⟩
  · cases hk
  · rcases h'.2 with ⟨rfl, _⟩ | ⟨g', cap', cur', rfl, _, hh', _⟩
    · cases hk'
    · cases hk
      cases hk'
      rw [hh] at hh'
      cases hh'
      exact hne rfl
theorem ownBlk_ne {w : World} {b : Nat} {e : TypeId} {s n : Nat} {v : Value} {xs : List Value} (h : w.ownsRow b e s v n xs) {g : Nat} {t : TypeId} {cs : Array Value} (hb : Blk w g t cs) (hne : e ≠ t) : v.ownBlock ≠ some g := by
  intro hk
  rcases h.2 with ⟨rfl, _⟩ | ⟨g', cap, cur, rfl, _, hh, _⟩
  · cases hk
  · cases hk
    unfold Blk at hb
    rw [hh] at hb
    cases hb
    exact hne rfl

theorem intKeyed : Maps.Keyed Tryz.prog 3 := Maps.int_keyed Tryz.underlying3
theorem intKey {x : Int} (h : (Lit.int .i64 x).wf = true) : keyOf Tryz.prog 3 (.int .i64 x) = some (.int .i64 x) := Maps.keyOf_int_mk Tryz.underlying3 h
theorem wf_of {x : Int} (h : I64 x) : (Lit.int .i64 x).wf = true := WalkArith.wf_i64 ⟨h.1, h.2⟩
/-- Block b maps labels to their places. -/
def LabMap (w : World) (b : Nat) (labs : List (Int × Nat)) : Prop :=
  ∃ (D : DataW Unit) (n : Nat), w.ownsMap Tryz.prog 3 (plainElem Tryz.prog 3) b n D ∧ n ≤ labs.length ∧
    ∀ x, (Lit.int .i64 x).wf = true → Maps.has D (.int .i64 x) = (placeP labs x).isSome ∧ D.atKey (.int .i64 x) (.lit (.int .i64 0)) = .lit (.int .i64 (((placeP labs x).getD 0 : Nat) : Int))
theorem place_snoc (labs : List (Int × Nat)) (g : Int) (p : Nat) (x : Int) : placeP (labs ++ [(g, p)]) x = if g = x then some p else placeP labs x := by
  unfold placeP
  rw [List.reverse_append, List.reverse_singleton, List.singleton_append, List.find?_cons]
  by_cases h : g = x
  · subst h
    simp
  · rw [if_neg h, show ((g, p).1 == x) = false from beq_false_of_ne h]
theorem place_any (labs : List (Int × Nat)) (x : Int) : (placeP labs x).isSome = labs.any fun y => y.1 == x := by
  unfold placeP
  rw [Option.isSome_map, Bool.eq_iff_iff, List.find?_isSome, List.any_eq_true]
  simp
theorem LabMap.made (w : World) : LabMap (w.alloc (.map #[] 0)) w.heap.size [] :=
  ⟨.map [], 0, World.ownsMap_made _ _ _ _, Nat.le_refl _, fun _ _ => ⟨rfl, rfl⟩⟩
theorem LabMap.lt {w : World} {b : Nat} {labs : List (Int × Nat)} (h : LabMap w b labs) : b < w.heap.size := by
  obtain ⟨D, n, h, _⟩ := h
  exact h.lt
theorem LabMap.stay {w w' : World} {b : Nat} {labs : List (Int × Nat)} (h : LabMap w b labs) (hb : w'.heap[b]? = w.heap[b]?) : LabMap w' b labs := by
  obtain ⟨D, n, ⟨es, clock, h1, h2⟩, h3⟩ := h
  exact ⟨D, n, ⟨es, clock, hb.trans h1, h2⟩, h3⟩
theorem LabMap.ne {w : World} {b g : Nat} {labs : List (Int × Nat)} {t : TypeId} {cs : Array Value} (h : LabMap w b labs) (hb : Blk w g t cs) : b ≠ g := by
  intro e
  subst e
  obtain ⟨D, n, ⟨es, clock, h1, _⟩, _⟩ := h
  rw [show w.heap[b]? = _ from hb] at h1
  cases h1
theorem LabMap.row {w : World} {b : Nat} {labs : List (Int × Nat)} {base s n : Nat} {e : TypeId} {v : Value} {xs : List Value} (h : LabMap w b labs) (hv : w.ownsRow base e s v n xs) : v.ownBlock ≠ some b := by
  intro hk
  rcases hv.2 with ⟨rfl, _⟩ | ⟨g', cap, cur, rfl, _, hh, _⟩
  · cases hk
  · cases hk
    obtain ⟨D, n, ⟨es, clock, h1, _⟩, _⟩ := h
    rw [hh] at h1
    cases h1
theorem LabMap.put {w' : World} {b n : Nat} {labs : List (Int × Nat)} {D : DataW Unit} {g : Int} {p : Nat} (hn : n ≤ labs.length)
    (hD : ∀ x, (Lit.int .i64 x).wf = true → Maps.has D (.int .i64 x) = (placeP labs x).isSome ∧ D.atKey (.int .i64 x) (.lit (.int .i64 0)) = .lit (.int .i64 (((placeP labs x).getD 0 : Nat) : Int)))
    (hi : Maps.IsMap D) (h : w'.ownsMap Tryz.prog 3 (plainElem (H := Unit) Tryz.prog 3) b (n + 1) (D.put (.int .i64 g) (.lit (.int .i64 (p : Int))))) : LabMap w' b (labs ++ [(g, p)]) := by
  refine ⟨_, n + 1, h, by rw [List.length_append]; simp; omega, fun x hx => ?_⟩
  rw [place_snoc]
  by_cases e : g = x
  · subst e
    rw [if_pos rfl, Maps.has_put_same hi (intKeyed.key (intKey hx)), Maps.atKey_put_same hi (intKeyed.key (intKey hx))]
    exact ⟨rfl, rfl⟩
  · have hne : (Lit.int .i64 x) ≠ .int .i64 g := fun h => e (by injection h with _ h; exact h.symm)
    rw [if_neg e, Maps.has_put_other hne, Maps.atKey_put_other hne]
    exact hD x hx
def goalCells (l : List (Nat × List UInt8)) : List Value := (l.map fun g => [Value.int .i64 (g.1 : Int), .string (mkS g.2)]).flatten
theorem goalCells_snoc (l : List (Nat × List UInt8)) (i : Nat) (s : List UInt8) : goalCells (l ++ [(i, s)]) = goalCells l ++ [.int .i64 (i : Int), .string (mkS s)] := by
  unfold goalCells
  rw [List.map_append, List.flatten_append]
  simp
def OwnG (w : World) (base : Nat) (v : Value) (l : List (Nat × List UInt8)) : Prop := w.ownsRow base 122 2 v l.length (goalCells l)
theorem OwnG.nil (w : World) (base : Nat) : OwnG w base (.slice none 0 0) [] := World.ownsRow_nil w base 122 2
theorem OwnG.snoc {w : World} {base : Nat} {v : Value} {l : List (Nat × List UInt8)} {i : Nat} {s : List UInt8} (h : w.ownsRow base 122 2 v (l.length + 1) (goalCells l ++ [.int .i64 (i : Int), .string (mkS s)])) : OwnG w base v (l ++ [(i, s)]) := by
  unfold OwnG
  rw [goalCells_snoc, List.length_append]
  exact h
theorem goalCells_at : ∀ (l : List (Nat × List UInt8)) (k : Nat) (i : Nat) (s : List UInt8), l[k]? = some (i, s) → (goalCells l)[k * 2]? = some (.int .i64 (i : Int)) ∧ (goalCells l)[k * 2 + 1]? = some (.string (mkS s))
  | [], k, i, s, h => by simp at h
  | g :: l, 0, i, s, h => by
    simp only [List.getElem?_cons_zero, Option.some.injEq] at h
    subst h
    unfold goalCells
    exact ⟨rfl, rfl⟩
  | g :: l, k + 1, i, s, h => by
    have ih := goalCells_at l k i s (by simpa using h)
    unfold goalCells at *
    rw [List.map_cons, List.flatten_cons]
    rw [show (k + 1) * 2 + 1 = k * 2 + 1 + 2 by omega, show (k + 1) * 2 = k * 2 + 2 by omega]
    exact ih
theorem OwnG.at_ {w : World} {base : Nat} {v : Value} {l : List (Nat × List UInt8)} (h : OwnG w base v l) {k i : Nat} {s : List UInt8} (hk : l[k]? = some (i, s)) :
    ∃ b c, v = .slice (some ⟨b, 0, none⟩) l.length c ∧ b < w.heap.size ∧ w.cell? ⟨b, k * 2, none⟩ = some (.int .i64 (i : Int)) ∧ w.cell? ⟨b, k * 2 + 1, none⟩ = some (.string (mkS s)) := by
  have hlt := (List.getElem?_eq_some_iff.1 hk).1
  obtain ⟨a1, a2⟩ := goalCells_at l k i s hk
  rcases h.2 with ⟨_, h0⟩ | ⟨g, cap, cur, e1, hg, hh, _⟩
  · omega
  · have hc := World.ownsRow.cells h (g := g) (by rw [e1]; rfl)
    have hadd : ∀ j, (⟨g, 0, none⟩ : Addr).add j = ⟨g, j, none⟩ := fun j => by unfold Addr.add; split <;> simp_all
    refine ⟨g, cap, e1, (Array.getElem?_eq_some_iff.1 hh).1, ?_, ?_⟩
    · have := hc (k * 2) _ a1
      rwa [hadd] at this
    · have := hc (k * 2 + 1) _ a2
      rwa [hadd] at this
theorem infoGoal : (Tryz.prog.info? 122).map (fun i => (i.zero, i.size, i.bytes)) = some (some (.agg #[.int .i64 0, .string ⟨#[]⟩]), 2, 24) := by kernel_rfl
/-- Where instructions go, whom they call: by their place. -/
def goalsOf (code : List Ins) : List (Nat × List UInt8) := (code.zipIdx).filterMap fun x => x.1.goal.map fun g => (x.2, Lib.itoa g)
def callsOf (code : List Ins) : List (Nat × List UInt8) := (code.zipIdx).filterMap fun x => x.1.call.map fun s => (x.2, s)
theorem goals_snoc (code : List Ins) (x : Ins) : goalsOf (code ++ [x]) = goalsOf code ++ (match x.goal with | some g => [(code.length, Lib.itoa g)] | none => []) := by
  unfold goalsOf
  rw [List.zipIdx_append, List.filterMap_append]
  cases h : x.goal <;> simp [h]
theorem calls_snoc (code : List Ins) (x : Ins) : callsOf (code ++ [x]) = callsOf code ++ (match x.call with | some s => [(code.length, s)] | none => []) := by
  unfold callsOf
  rw [List.zipIdx_append, List.filterMap_append]
  cases h : x.call <;> simp [h]

structure SecM (w : World) (base bx : Nat) (nm : List UInt8) (ms : List Mac) (labs : List (Int × Nat)) (gs ks : List (Nat × List UInt8)) (cv : Value) (lb : Nat) (gv kv : Value) : Prop where
  blk : Blk w bx 56 #[.string (mkS nm), cv, .map (some lb), gv, kv]
  code : OwnMacs w base cv ms
  map : LabMap w lb labs
  goals : OwnG w base gv gs
  calls : OwnG w base kv ks
  apart : ∀ k, gv.ownBlock = some k → kv.ownBlock ≠ some k
  ge : base ≤ bx ∧ base ≤ lb
/-- A block of the section. -/
def InSec (bx lb : Nat) (cv gv kv : Value) (k : Nat) : Prop := k = bx ∨ k = lb ∨ cv.ownBlock = some k ∨ gv.ownBlock = some k ∨ kv.ownBlock = some k
section
variable {w w' : World} {B bx lb : Nat} {nm : List UInt8} {ms : List Mac} {labs : List (Int × Nat)} {gs ks : List (Nat × List UInt8)} {cv gv kv : Value}
theorem SecM.lt (h : SecM w B bx nm ms labs gs ks cv lb gv kv) {k : Nat} (hk : InSec bx lb cv gv kv k) : k < w.heap.size := by
  rcases hk with rfl | rfl | hk | hk | hk
  · exact h.blk.lt
  · exact h.map.lt
  · exact own_lt h.code hk
  · exact own_lt h.goals hk
  · exact own_lt h.calls hk
theorem SecM.low (h : SecM w B bx nm ms labs gs ks cv lb gv kv) {k : Nat} (hk : InSec bx lb cv gv kv k) : B ≤ k := by
  rcases hk with rfl | rfl | hk | hk | hk
  · exact h.ge.1
  · exact h.ge.2
  · exact own_block_ge h.code k hk
  · exact own_block_ge h.goals k hk
  · exact own_block_ge h.calls k hk
theorem SecM.stay (h : SecM w B bx nm ms labs gs ks cv lb gv kv) (hk : ∀ k, InSec bx lb cv gv kv k → w'.heap[k]? = w.heap[k]?) : SecM w' B bx nm ms labs gs ks cv lb gv kv :=
  ⟨(hk bx (.inl rfl)).trans h.blk, own_at h.code fun k e => hk k (.inr (.inr (.inl e))), h.map.stay (hk lb (.inr (.inl rfl))), own_at h.goals fun k e => hk k (.inr (.inr (.inr (.inl e)))), own_at h.calls fun k e => hk k (.inr (.inr (.inr (.inr e)))), h.apart, h.ge⟩
theorem SecM.below (h : SecM w B bx nm ms labs gs ks cv lb gv kv) (hb : Below w.heap.size w w') : SecM w' B bx nm ms labs gs ks cv lb gv kv := h.stay fun k hk => hb.block k (h.lt hk)
theorem SecM.out (h : SecM w B bx nm ms labs gs ks cv lb gv kv) {S : Nat → Prop} (hb : OutS S w w') (hS : ∀ k, InSec bx lb cv gv kv k → ¬ S k) : SecM w' B bx nm ms labs gs ks cv lb gv kv := h.stay fun k hk => hb.block k (h.lt hk) (hS k hk)
/-- An instruction more. -/
theorem SecM.addCode (h : SecM w B bx nm ms labs gs ks cv lb gv kv) {m : Mac} {cv' : Value} {H : Nat} (hap : Appended w B 39 5 cv (ms.length + 1) (cellsS ms ++ m.cells) H cv' w') (hH : w.heap.size ≤ H) :
    SecM (w'.setCell ⟨bx, 1, none⟩ cv') B bx nm (ms ++ [m]) labs gs ks cv' lb gv kv ∧ OutS (InSec bx lb cv gv kv) w (w'.setCell ⟨bx, 1, none⟩ cv') ∧ (∀ k, InSec bx lb cv' gv kv k → InSec bx lb cv gv kv k ∨ w.heap.size ≤ k) := by
  have hbx := hap.blk h.code h.blk (by decide)
  have hc2 : ∀ k, cv'.ownBlock = some k → k ≠ bx := fun k hk e => ownBlk_ne hap.own hbx (by decide) (by rw [← e]; exact hk)
  have hfar : ∀ k, k ≠ bx → (w'.setCell ⟨bx, 1, none⟩ cv').heap[k]? = w'.heap[k]? := fun k hk => Below.heap_setCell w' ⟨bx, 1, none⟩ cv' k hk
  have hst : ∀ k, (k = lb ∨ gv.ownBlock = some k ∨ kv.ownBlock = some k) → (w'.setCell ⟨bx, 1, none⟩ cv').heap[k]? = w.heap[k]? := by
    intro k hk
    have h1 : k ≠ bx := by
      rintro rfl
      rcases hk with e | e | e
      · exact h.map.ne h.blk e.symm
      · exact ownBlk_ne h.goals h.blk (by decide) e
      · exact ownBlk_ne h.calls h.blk (by decide) e
    have h2 : cv.ownBlock ≠ some k := by
      rcases hk with rfl | e | e
      · exact h.map.row h.code
      · exact own_two h.goals h.code (by decide) k e
      · exact own_two h.calls h.code (by decide) k e
    have hlt : k < w.heap.size := h.lt (.inr (hk.imp id fun x => .inr x))
    exact (hfar k h1).trans (hap.2.2.1.block k hlt (fun e => h2 e.symm))
  refine ⟨⟨hbx.set_ 1 cv', OwnMacs.snoc (own_at hap.own fun k hk => hfar k (hc2 k hk)), h.map.stay (hst lb (.inl rfl)), own_at h.goals fun k e => hst k (.inr (.inl e)), own_at h.calls fun k e => hst k (.inr (.inr e)), h.apart, h.ge⟩, ?_, fun k hk => ?_⟩
  · exact (outS_grown hap.2.2.1 fun k e => .inr (.inr (.inl e))).trans (outS_set (S := fun k => k = bx) w' bx 1 cv' rfl) fun i _ e => .inl e
  · rcases hk with e | e | e | e
    · exact .inl (.inl e)
    · exact .inl (.inr (.inl e))
    · rcases hap.2.2.2 with h1 | h1
      · exact .inl (.inr (.inr (.inl (h1 ▸ e))))
      · rw [h1] at e; cases e; exact .inr hH
    · exact .inl (.inr (.inr (.inr e)))
/-- A goal more. -/
theorem SecM.addGoal (h : SecM w B bx nm ms labs gs ks cv lb gv kv) {i : Nat} {s : List UInt8} {gv' : Value} {H : Nat} (hap : Appended w B 122 2 gv (gs.length + 1) (goalCells gs ++ [.int .i64 (i : Int), .string (mkS s)]) H gv' w') (hH : w.heap.size ≤ H) :
    SecM (w'.setCell ⟨bx, 3, none⟩ gv') B bx nm ms labs (gs ++ [(i, s)]) ks cv lb gv' kv ∧ OutS (InSec bx lb cv gv kv) w (w'.setCell ⟨bx, 3, none⟩ gv') ∧ (∀ k, InSec bx lb cv gv' kv k → InSec bx lb cv gv kv k ∨ w.heap.size ≤ k) := by
  have hbx := hap.blk h.goals h.blk (by decide)
  have hc2 : ∀ k, gv'.ownBlock = some k → k ≠ bx := fun k hk e => ownBlk_ne hap.own hbx (by decide) (by rw [← e]; exact hk)
  have hfar : ∀ k, k ≠ bx → (w'.setCell ⟨bx, 3, none⟩ gv').heap[k]? = w'.heap[k]? := fun k hk => Below.heap_setCell w' ⟨bx, 3, none⟩ gv' k hk
  have hst : ∀ k, (k = lb ∨ cv.ownBlock = some k ∨ kv.ownBlock = some k) → (w'.setCell ⟨bx, 3, none⟩ gv').heap[k]? = w.heap[k]? := by
    intro k hk
    have h1 : k ≠ bx := by
      rintro rfl
      rcases hk with e | e | e
      · exact h.map.ne h.blk e.symm
      · exact ownBlk_ne h.code h.blk (by decide) e
      · exact ownBlk_ne h.calls h.blk (by decide) e
    have h2 : gv.ownBlock ≠ some k := by
      rcases hk with rfl | e | e
      · exact h.map.row h.goals
      · exact own_two h.code h.goals (by decide) k e
      · exact fun e' => h.apart k e' e
    have hlt : k < w.heap.size := h.lt (by
      rcases hk with e | e | e
      · exact .inr (.inl e)
      · exact .inr (.inr (.inl e))
      · exact .inr (.inr (.inr (.inr e))))
    exact (hfar k h1).trans (hap.2.2.1.block k hlt (fun e => h2 e.symm))
  refine ⟨⟨hbx.set_ 3 gv', own_at h.code fun k e => hst k (.inr (.inl e)), h.map.stay (hst lb (.inl rfl)), OwnG.snoc (own_at hap.own fun k hk => hfar k (hc2 k hk)), own_at h.calls fun k e => hst k (.inr (.inr e)), ?_, h.ge⟩, ?_, fun k hk => ?_⟩
  · intro k hk
    rcases hap.2.2.2 with h1 | h1
    · exact h.apart k (h1 ▸ hk)
    · rw [h1] at hk
      cases hk
      intro e
      have := own_lt h.calls e
      omega
  · exact (outS_grown hap.2.2.1 fun k e => .inr (.inr (.inr (.inl e)))).trans (outS_set (S := fun k => k = bx) w' bx 3 gv' rfl) fun i _ e => .inl e
  · rcases hk with e | e | e | e | e
    · exact .inl (.inl e)
    · exact .inl (.inr (.inl e))
    · exact .inl (.inr (.inr (.inl e)))
    · rcases hap.2.2.2 with h1 | h1
      · exact .inl (.inr (.inr (.inr (.inl (h1 ▸ e)))))
      · rw [h1] at e; cases e; exact .inr hH
    · exact .inl (.inr (.inr (.inr (.inr e))))
/-- A call more. -/
theorem SecM.addCall (h : SecM w B bx nm ms labs gs ks cv lb gv kv) {i : Nat} {s : List UInt8} {kv' : Value} {H : Nat} (hap : Appended w B 122 2 kv (ks.length + 1) (goalCells ks ++ [.int .i64 (i : Int), .string (mkS s)]) H kv' w') (hH : w.heap.size ≤ H) :
    SecM (w'.setCell ⟨bx, 4, none⟩ kv') B bx nm ms labs gs (ks ++ [(i, s)]) cv lb gv kv' ∧ OutS (InSec bx lb cv gv kv) w (w'.setCell ⟨bx, 4, none⟩ kv') ∧ (∀ k, InSec bx lb cv gv kv' k → InSec bx lb cv gv kv k ∨ w.heap.size ≤ k) := by
  have hbx := hap.blk h.calls h.blk (by decide)
  have hc2 : ∀ k, kv'.ownBlock = some k → k ≠ bx := fun k hk e => ownBlk_ne hap.own hbx (by decide) (by rw [← e]; exact hk)
  have hfar : ∀ k, k ≠ bx → (w'.setCell ⟨bx, 4, none⟩ kv').heap[k]? = w'.heap[k]? := fun k hk => Below.heap_setCell w' ⟨bx, 4, none⟩ kv' k hk
  have hst : ∀ k, (k = lb ∨ cv.ownBlock = some k ∨ gv.ownBlock = some k) → (w'.setCell ⟨bx, 4, none⟩ kv').heap[k]? = w.heap[k]? := by
    intro k hk
    have h1 : k ≠ bx := by
      rintro rfl
      rcases hk with e | e | e
      · exact h.map.ne h.blk e.symm
      · exact ownBlk_ne h.code h.blk (by decide) e
      · exact ownBlk_ne h.goals h.blk (by decide) e
    have h2 : kv.ownBlock ≠ some k := by
      rcases hk with rfl | e | e
      · exact h.map.row h.calls
      · exact own_two h.code h.calls (by decide) k e
      · exact h.apart k e
    have hlt : k < w.heap.size := h.lt (by
      rcases hk with e | e | e
      · exact .inr (.inl e)
      · exact .inr (.inr (.inl e))
      · exact .inr (.inr (.inr (.inl e))))
    exact (hfar k h1).trans (hap.2.2.1.block k hlt (fun e => h2 e.symm))
  refine ⟨⟨hbx.set_ 4 kv', own_at h.code fun k e => hst k (.inr (.inl e)), h.map.stay (hst lb (.inl rfl)), own_at h.goals fun k e => hst k (.inr (.inr e)), OwnG.snoc (own_at hap.own fun k hk => hfar k (hc2 k hk)), ?_, h.ge⟩, ?_, fun k hk => ?_⟩
  · intro k hk
    rcases hap.2.2.2 with h1 | h1
    · rw [h1]; exact h.apart k hk
    · rw [h1]
      intro e
      cases e
      have := own_lt h.goals hk
      omega
  · exact (outS_grown hap.2.2.1 fun k e => .inr (.inr (.inr (.inr e)))).trans (outS_set (S := fun k => k = bx) w' bx 4 kv' rfl) fun i _ e => .inl e
  · rcases hk with e | e | e | e | e
    · exact .inl (.inl e)
    · exact .inl (.inr (.inl e))
    · exact .inl (.inr (.inr (.inl e)))
    · exact .inl (.inr (.inr (.inr (.inl e))))
    · rcases hap.2.2.2 with h1 | h1
      · exact .inl (.inr (.inr (.inr (.inr (h1 ▸ e)))))
      · rw [h1] at e; cases e; exact .inr hH
/-- A label more. -/
theorem SecM.addLab (h : SecM w B bx nm ms labs gs ks cv lb gv kv) {g : Int} {p : Nat} (hm : LabMap w' lb (labs ++ [(g, p)])) (ht : w.mapTurned w' lb) :
    SecM w' B bx nm ms (labs ++ [(g, p)]) gs ks cv lb gv kv ∧ OutS (InSec bx lb cv gv kv) w w' := by
  have ho : OutS (fun k => k = lb) w w' := outS_grown ht.grown fun k e => (Option.some.inj e).symm
  have hst : ∀ k, k ≠ lb → k < w.heap.size → w'.heap[k]? = w.heap[k]? := fun k h1 h2 => ho.block k h2 h1
  refine ⟨⟨(hst bx (fun e => h.map.ne h.blk e.symm) h.blk.lt).trans h.blk, own_at h.code fun k e => hst k (fun e' => h.map.row h.code (e' ▸ e)) (own_lt h.code e), hm, own_at h.goals fun k e => hst k (fun e' => h.map.row h.goals (e' ▸ e)) (own_lt h.goals e), own_at h.calls fun k e => hst k (fun e' => h.map.row h.calls (e' ▸ e)) (own_lt h.calls e), h.apart, h.ge⟩, ho.wider fun i _ e => .inr (.inl e)⟩
end
/-- The section that has read so much. -/
def Sec (w : World) (base bx : Nat) (nm : List UInt8) (st : PSt) (cv : Value) (lb : Nat) (gv kv : Value) : Prop :=
  SecM w base bx nm (st.code.map fun x => x.m) st.labs (goalsOf st.code) (callsOf st.code) cv lb gv kv
end Go.Proofs.YtdldochhondifaaGreatDoor
