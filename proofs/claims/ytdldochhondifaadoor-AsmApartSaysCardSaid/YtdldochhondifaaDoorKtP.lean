/-
  Plain facts on code that is made of raw numbers (turnerykit's MacOf, CodeOf): it may stand.
  Conditions: none (no program in sight).
-/
import Derived.Test.YtdldochhondifaaDoorByP
namespace Go.Proofs.YtdldochhondifaaDoor
open Go.RowKit

/-- An instruction without fault: what that says. -/
theorem fault_zero (m : Mac) (many : Int) : faultS m many = 0 ↔ isOp m.op = true ∧ RegsOk m ∧ (shD m.op = false → m.dst = 0) ∧ (shA m.op = false → m.a = 0) ∧ (shB m.op = false → m.b = 0) ∧ numberS (shK m.op) m.n many = 0 := by
  constructor
  · intro h
    have ⟨ho, hr⟩ := regs_of_fault m many h
    refine ⟨ho, hr, ?_⟩
    rw [fault_of m many ho] at h
    split at h
    · cases h
    split at h
    · cases h
    rename_i h3 h5
    simp only [not_or] at h3 h5
    refine ⟨fun hd => ?_, fun hd => ?_, fun hd => ?_, ?_⟩
    · have := h5.1
      rw [field_5] at this
      exact Decidable.byContradiction fun hn => this ⟨hd, hn⟩
    · have := h5.2.1
      rw [field_5] at this
      exact Decidable.byContradiction fun hn => this ⟨hd, hn⟩
    · have := h5.2.2.1
      rw [field_5] at this
      exact Decidable.byContradiction fun hn => this ⟨hd, hn⟩
    · rcases number_val (shK m.op) m.n many with h | h | h
      · exact h
      · exact absurd h h3.2.2.2
      · exact absurd h h5.2.2.2
  · rintro ⟨ho, ⟨h1, h2, h3⟩, z1, z2, z3, hn⟩
    rw [fault_of m many ho]
    simp only [field_3, field_5]
    rw [if_neg, if_neg]
    · rintro (⟨h, h'⟩ | ⟨h, h'⟩ | ⟨h, h'⟩ | h)
      · exact h' (z1 h)
      · exact h' (z2 h)
      · exact h' (z3 h)
      · rw [hn] at h; cases h
    · rintro (⟨h, h'⟩ | ⟨h, h'⟩ | ⟨h, h'⟩ | h)
      · have := h1 h; omega
      · have := h2 h; omega
      · have := h3 h; omega
      · rw [hn] at h; cases h
theorem zero_of_fault {m : Mac} {many : Int} (h : faultS m many = 0) : ZeroOk m := by
  obtain ⟨_, _, z1, z2, z3, hn⟩ := (fault_zero m many).1 h
  refine ⟨z1, z2, z3, fun hk => ?_⟩
  rw [hk] at hn
  unfold numberS at hn
  simp only [show ¬ (0 : Int) = 1 by omega, if_false, if_true] at hn
  split at hn
  · assumption
  · cases hn
/-- A list without fault. -/
def CodeOk (ms : List Mac) : Prop := checkS ms = (0, 0)
theorem code_ok_iff (ms : List Mac) : (checkS ms).1 = 0 ↔ ms.length ≤ 5000 ∧ (∀ (j : Nat) (m : Mac), ms[j]? = some m → faultS m (ms.length : Int) = 0) ∧ ∃ m, ms[ms.length - 1]? = some m ∧ (m.op = 37 ∨ m.op = 45) := by
  constructor
  · intro h
    by_cases hl : 5000 < ms.length
    · rw [checkS_many ms hl] at h; cases h
    by_cases hall : ∀ (j : Nat) (m : Mac), ms[j]? = some m → faultS m (ms.length : Int) = 0
    · refine ⟨by omega, hall, ?_⟩
      by_cases h0 : ms.length = 0
      · rw [List.eq_nil_of_length_eq_zero h0] at h; cases h
      · obtain ⟨m, hm⟩ : ∃ m, ms[ms.length - 1]? = some m := ⟨ms[ms.length - 1]'(by omega), List.getElem?_eq_getElem _⟩
        refine ⟨m, hm, ?_⟩
        rw [checkS_end ms m (by omega) hall hm] at h
        split at h
        · assumption
        · cases h
    · exfalso
      obtain ⟨k, m, hk, hf, hb⟩ : ∃ (k : Nat) (m : Mac), ms[k]? = some m ∧ faultS m (ms.length : Int) ≠ 0 ∧ ∀ (j : Nat) (m' : Mac), j < k → ms[j]? = some m' → faultS m' (ms.length : Int) = 0 := by
        cases hi : ms.findIdx? (fun m => faultS m (ms.length : Int) != 0) with
        | none =>
          exfalso
          apply hall
          intro j m hm
          rw [List.findIdx?_eq_none_iff] at hi
          simpa using hi m (List.mem_of_getElem? hm)
        | some k =>
          rw [List.findIdx?_eq_some_iff_getElem] at hi
          obtain ⟨hlt, h1, h2⟩ := hi
          refine ⟨k, ms[k], List.getElem?_eq_getElem hlt, by simpa using h1, fun j m' hj hm' => ?_⟩
          have := h2 j hj
          rw [List.getElem?_eq_getElem (by omega)] at hm'
          cases hm'
          simpa using this
      rw [checkS_bad ms k m (by omega) hk hf hb] at h
      exact hf h
  · rintro ⟨hl, hall, m, hm, ho⟩
    rw [checkS_end ms m hl hall hm, if_pos ho]
theorem check_zero {ms : List Mac} (h : (checkS ms).1 = 0) : checkS ms = (0, 0) := by
  obtain ⟨hl, hall, m, hm, ho⟩ := (code_ok_iff ms).1 h
  rw [checkS_end ms m hl hall hm, if_pos ho]

/-- The Op that a raw number picks. -/
def opOf (a routines : Int) : Int := if 1 + a % 47 = 45 ∨ (1 + a % 47 = 44 ∧ routines = 0) then 47 else 1 + a % 47
/-- The number that is picked for an Op. -/
def numOf (op b n many routines : Int) : Int :=
  if hasS (fldS op) 114 then n % routines else if hasS (fldS op) 119 then n % 4 else if hasS (fldS op) 116 then n % many
  else if hasS (fldS op) 110 then (if 33 ≤ op ∨ 0 < (b.tdiv 64) % 4 then n % 7 - 1 else n) else 0
/-- The instruction of raw numbers. -/
def macOf (a b n many routines : Int) : Mac :=
  ⟨opOf a routines, if shD (opOf a routines) then b % 4 else 0, if shA (opOf a routines) then (b.tdiv 4) % 4 else 0, if shB (opOf a routines) then (b.tdiv 16) % 4 else 0, numOf (opOf a routines) b n many routines⟩
theorem opOf_in (a routines : Int) : 1 ≤ opOf a routines ∧ opOf a routines ≤ 47 ∧ opOf a routines ≠ 45 ∧ (routines = 0 → opOf a routines ≠ 44) := by
  unfold opOf
  split <;> omega
theorem kind_op (op : Int) (h : isOp op = true) : shK op = 4 → op = 44 := by
  rw [isOp_iff] at h
  have key : ∀ k : Fin 48, 1 ≤ k.val → shK (k.val : Int) = 4 → (k.val : Int) = 44 := by decide +kernel
  have := key ⟨op.toNat, by omega⟩ (by simp; omega)
  simp only [show ((op.toNat : Nat) : Int) = op from by omega] at this
  exact this
theorem macOf_ok (a b n many routines : Int) (hm : 0 < many) (_hr : 0 ≤ routines) : faultS (macOf a b n many routines) many = 0 := by
  rw [fault_zero]
  have ho := opOf_in a routines
  have ho' : isOp (opOf a routines) = true := (isOp_iff _).2 ⟨ho.1, ho.2.1⟩
  have hk := kind_op (opOf a routines) ho'
  unfold macOf
  refine ⟨ho', ⟨fun h => ?_, fun h => ?_, fun h => ?_⟩, fun h => ?_, fun h => ?_, fun h => ?_, ?_⟩
  · simp only at h ⊢; rw [if_pos h]; omega
  · simp only at h ⊢; rw [if_pos h]; omega
  · simp only at h ⊢; rw [if_pos h]; omega
  · simp only at h ⊢; rw [h]; rfl
  · simp only at h ⊢; rw [h]; rfl
  · simp only at h ⊢; rw [h]; rfl
  · simp only
    unfold numOf numberS
    rcases (fld_cases _ ho').2 with ⟨e1, e2, e3, e4, e5⟩ | ⟨e1, e2, e3, e4, e5⟩ | ⟨e1, e2, e3, e4, e5⟩ | ⟨e1, e2, e3, e4, e5⟩ | ⟨e1, e2, e3, e4, e5⟩ <;>
      rw [e1, e2, e3, e4, e5] <;> simp only [if_true, if_false, Bool.false_eq_true, show ¬ (2 : Int) = 1 by omega, show ¬ (2 : Int) = 0 by omega, show ¬ (2 : Int) = 3 by omega, show ¬ (2 : Int) = 4 by omega,
        show ¬ (3 : Int) = 1 by omega, show ¬ (3 : Int) = 0 by omega, show ¬ (4 : Int) = 1 by omega, show ¬ (4 : Int) = 0 by omega, show ¬ (4 : Int) = 3 by omega, show ¬ (0 : Int) = 1 by omega]
    · rw [if_neg]
      have := Int.emod_nonneg n (show many ≠ 0 by omega)
      have := Int.emod_lt_of_pos n hm
      omega
    · rw [if_neg (by omega)]
    · rw [if_neg]
      have h44 := hk e5
      have hr0 : routines ≠ 0 := fun h => ho.2.2.2 h h44
      have := Int.emod_nonneg n hr0
      omega
theorem macOf_i64 (a b n many routines : Int) (hn : I64 n) (hm : 0 < many) (hm' : I64 many) (hr : 0 ≤ routines) (hr' : I64 routines) : (macOf a b n many routines).ok := by
  have ho := opOf_in a routines
  unfold I64 at hn hm' hr'
  have hN : I64 (numOf (opOf a routines) b n many routines) := by
    unfold numOf I64
    split
    · by_cases h0 : routines = 0
      · subst h0; rw [Int.emod_zero]; exact hn
      · have := Int.emod_nonneg n h0
        have := Int.emod_lt_of_pos n (show 0 < routines by omega)
        omega
    split
    · omega
    split
    · have := Int.emod_nonneg n (show many ≠ 0 by omega)
      have := Int.emod_lt_of_pos n hm
      omega
    split
    · split <;> omega
    · omega
  unfold macOf
  refine ⟨?_, ?_, ?_, ?_, hN⟩ <;> unfold I64 <;> simp only
  · omega
  all_goals split <;> omega
/-- The code of raw numbers: three for an instruction; a return behind them. -/
def codeOf (l : List Int) (n : Nat) (routines : Int) : List Mac :=
  ((List.range (min (l.length / 3) n)).map fun i => macOf (l.getD (3 * i) 0) (l.getD (3 * i + 1) 0) (l.getD (3 * i + 2) 0) ((min (l.length / 3) n : Nat) + 1) routines) ++ [⟨45, 0, 0, 0, 0⟩]
theorem codeOf_len (l : List Int) (n : Nat) (routines : Int) : (codeOf l n routines).length = min (l.length / 3) n + 1 := by unfold codeOf; simp
theorem codeOf_get (l : List Int) (n : Nat) (routines : Int) (j : Nat) (m : Mac) (h : (codeOf l n routines)[j]? = some m) :
    (∃ a b c, j < min (l.length / 3) n ∧ m = macOf a b c ((min (l.length / 3) n : Nat) + 1) routines ∧ (a ∈ l ∧ b ∈ l ∧ c ∈ l)) ∨ (j = min (l.length / 3) n ∧ m = ⟨45, 0, 0, 0, 0⟩) := by
  unfold codeOf at h
  rcases Nat.lt_or_ge j (min (l.length / 3) n) with hj | hj
  · left
    rw [List.getElem?_append_left (by simpa using hj), List.getElem?_map, List.getElem?_range hj] at h
    simp only [Option.map_some, Option.some.injEq] at h
    have mem : ∀ k, k < l.length → l.getD k 0 ∈ l := fun k hk => by
      rw [List.getD_eq_getElem?_getD, List.getElem?_eq_getElem hk]
      exact List.getElem_mem hk
    exact ⟨_, _, _, hj, h.symm, mem _ (by omega), mem _ (by omega), mem _ (by omega)⟩
  · right
    rw [List.getElem?_append_right (by simpa using hj)] at h
    simp only [List.length_map, List.length_range] at h
    rcases Nat.eq_or_lt_of_le hj with h' | h'
    · rw [← h', Nat.sub_self] at h
      simp only [List.getElem?_cons_zero, Option.some.injEq] at h
      exact ⟨h'.symm, h.symm⟩
    · rw [List.getElem?_eq_none (by simp; omega)] at h
      cases h
theorem codeOf_ok (l : List Int) (n : Nat) (routines : Int) (hr : 0 ≤ routines) (hn : n < 5000) : checkS (codeOf l n routines) = (0, 0) := by
  have hlen := codeOf_len l n routines
  apply check_zero
  rw [code_ok_iff]
  refine ⟨by rw [hlen]; omega, fun j m hm => ?_, ⟨45, 0, 0, 0, 0⟩, ?_, by simp⟩
  · rw [hlen]
    rcases codeOf_get l n routines j m hm with ⟨a, b, c, hj, rfl, _⟩ | ⟨_, rfl⟩
    · exact macOf_ok a b c _ routines (by omega) hr
    · rw [fault_zero]
      refine ⟨by decide, ⟨fun h => ?_, fun h => ?_, fun h => ?_⟩, fun _ => rfl, fun _ => rfl, fun _ => rfl, ?_⟩
      · simp only at h ⊢; omega
      · simp only at h ⊢; omega
      · simp only at h ⊢; omega
      · rw [show shK (45 : Int) = 0 by decide]
        rfl
  · rw [hlen]
    unfold codeOf
    rw [List.getElem?_append_right (by simp)]
    simp
theorem codeOf_i64 (l : List Int) (n : Nat) (routines : Int) (hr : 0 ≤ routines) (hr' : I64 routines) (hl : ∀ x ∈ l, I64 x) (hn : n < 5000) : ∀ m ∈ codeOf l n routines, m.ok := by
  intro m hm
  obtain ⟨j, hj⟩ := List.mem_iff_getElem?.1 hm
  rcases codeOf_get l n routines j m hj with ⟨a, b, c, _, rfl, ha, hb, hc⟩ | ⟨_, rfl⟩
  · exact macOf_i64 a b c _ routines (hl c hc) (by omega) (by unfold I64; omega) hr hr'
  · exact by refine ⟨?_, ?_, ?_, ?_, ?_⟩ <;> (unfold I64; simp)
end Go.Proofs.YtdldochhondifaaDoor
