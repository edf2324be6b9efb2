/-
  Plain facts on a list of bytes read as instructions, and on a number's digits gathered from the lowest on.
  Conditions: none (no program in sight).
-/
import Derived.Test.YtdldochhondifaaGreatDoorByH
import Derived.Laws.BitsAllLaws
namespace Go.Proofs.YtdldochhondifaaGreatDoor
open Go.RowKit

/-- Instructions ahead of what else is read. -/
def preE (ms : List Mac) : Except Nat (List Mac) → Except Nat (List Mac)
  | .error e => .error e
  | .ok r => .ok (ms ++ r)
theorem preE_nil (r : Except Nat (List Mac)) : preE [] r = r := by cases r <;> rfl
theorem preE_pre (a b : List Mac) (r : Except Nat (List Mac)) : preE a (preE b r) = preE (a ++ b) r := by
  cases r with
  | error e => rfl
  | ok l => simp [preE]
/-- A list read: the instructions; or how many bytes are left where none stands. -/
def decS : Nat → List Int → Except Nat (List Mac)
  | 0, l => if l = [] then .ok [] else .error l.length
  | k + 1, l => if l = [] then .ok [] else match readS l with
    | none => .error l.length
    | some (m, l') => preE [m] (decS k l')
theorem decS_nil (k : Nat) : decS k [] = .ok [] := by cases k <;> rfl
theorem decS_none (k : Nat) (l : List Int) (h : l ≠ []) (hr : readS l = none) : decS k l = .error l.length := by
  cases k with
  | zero => unfold decS; rw [if_neg h]
  | succ k => unfold decS; rw [if_neg h, hr]
theorem decS_some (k : Nat) (l : List Int) (m : Mac) (l' : List Int) (h : l ≠ []) (hr : readS l = some (m, l')) : decS (k + 1) l = preE [m] (decS k l') := by
  rw [decS, if_neg h, hr]
theorem codeS_pos (m : Mac) : 0 < (codeS m).length := by unfold codeS; simp
theorem bytesS_cons (m : Mac) (ms : List Mac) : bytesS (m :: ms) = codeS m ++ bytesS ms := by unfold bytesS; simp
/-- One that may be written and read: what is not spoken of is 0. -/
structure Fine (m : Mac) : Prop where
  op : isOp m.op = true
  regs : RegsOk m
  n : I64 m.n
  zero : ZeroOk m
theorem dec_code : ∀ (ms : List Mac) (k : Nat), (∀ m ∈ ms, Fine m) → (bytesS ms).length ≤ k → decS k (bytesS ms) = .ok ms
  | [], k, _, _ => decS_nil k
  | m :: ms, 0, _, h => by
    have := codeS_pos m
    rw [bytesS_cons, List.length_append] at h
    omega
  | m :: ms, k + 1, hf, h => by
    have hp := codeS_pos m
    have hm := hf m (by simp)
    rw [bytesS_cons, List.length_append] at h
    rw [bytesS_cons, decS_some k _ m (bytesS ms) (by intro e; rw [List.append_eq_nil_iff] at e; rw [e.1] at hp; simp at hp) (read_code m _ hm.op hm.regs hm.zero hm.n), dec_code ms k (fun x hx => hf x (by simp [hx])) (by omega)]
    rfl
theorem dec_back : ∀ (k : Nat) (l : List Int) (ms : List Mac), BytesOk l → decS k l = .ok ms → l = bytesS ms ∧ ∀ m ∈ ms, Fine m
  | 0, l, ms, _, h => by
    unfold decS at h
    split at h
    · rename_i e
      subst e
      cases h
      exact ⟨rfl, fun m hm => by cases hm⟩
    · cases h
  | k + 1, l, ms, hb, h => by
    by_cases e : l = []
    · subst e
      rw [decS_nil] at h
      cases h
      exact ⟨rfl, fun m hm => by cases hm⟩
    · cases hr : readS l with
      | none => rw [decS_none _ _ e hr] at h; cases h
      | some p =>
        obtain ⟨m, l'⟩ := p
        rw [decS_some k l m l' e hr] at h
        obtain ⟨rfl, ho, hg, hn, hz⟩ := read_back l m l' hb hr
        cases hd : decS k l' with
        | error x => rw [hd] at h; cases h
        | ok ms' =>
          rw [hd] at h
          cases h
          obtain ⟨e', hf⟩ := dec_back k l' ms' (fun x hx => hb x (by simp [hx])) hd
          subst e'
          refine ⟨(bytesS_cons m ms').symm, fun x hx => ?_⟩
          rcases List.mem_cons.1 hx with rfl | hx
          · exact ⟨ho, hg, hn, hz⟩
          · exact hf x hx
theorem fine_of_check {ms : List Mac} (h : (checkS ms).1 = 0) (hi : ∀ m ∈ ms, m.ok) : ms.length ≤ 5000 ∧ ∀ m ∈ ms, Fine m := by
  obtain ⟨hl, hall, _⟩ := (code_ok_iff ms).1 h
  refine ⟨hl, fun m hm => ?_⟩
  obtain ⟨j, hj⟩ := List.mem_iff_getElem?.1 hm
  have ⟨h1, h2⟩ := regs_of_fault m _ (hall j m hj)
  exact ⟨h1, h2, (hi m hm).n, zero_of_fault (hall j m hj)⟩
theorem fine_ok {m : Mac} (h : Fine m) : m.ok := by
  obtain ⟨h1, h2, h3, h4⟩ := h
  obtain ⟨r1, r2, r3⟩ := h2
  obtain ⟨z1, z2, z3, z4⟩ := h4
  rw [isOp_iff] at h1
  refine ⟨by unfold I64; omega, ?_, ?_, ?_, h3⟩
  · cases e : shD m.op
    · rw [z1 e]; unfold I64; omega
    · have := r1 e; unfold I64; omega
  · cases e : shA m.op
    · rw [z2 e]; unfold I64; omega
    · have := r2 e; unfold I64; omega
  · cases e : shB m.op
    · rw [z3 e]; unfold I64; omega
    · have := r3 e; unfold I64; omega
/-- What reading a whole text comes to: the fault, the instructions. -/
def readL (bs : List Int) : (Int × Int) × List Mac :=
  if 70000 < bs.length then ((2, 0), []) else match decS bs.length bs with
  | .error k => ((1, (bs.length : Int) - k), [])
  | .ok ms => if (checkS ms).1 = 0 then ((0, 0), ms) else (checkS ms, [])
theorem codeL_len {ms : List Mac} (hi : ∀ m ∈ ms, m.ok) : (codeL ms).length ≤ 70000 := by
  unfold codeL
  split
  · rename_i h
    have := bytesS_len ms fun m hm => (hi m hm).n
    have := (fine_of_check h hi).1
    omega
  · simp
theorem read_codeL {ms : List Mac} (h : (checkS ms).1 = 0) (hi : ∀ m ∈ ms, m.ok) : readL (codeL ms) = ((0, 0), ms) := by
  have hl := codeL_len hi
  unfold readL
  rw [if_neg (by omega)]
  have e : codeL ms = bytesS ms := by unfold codeL; rw [if_pos h]
  rw [e, dec_code ms _ (fine_of_check h hi).2 (Nat.le_refl _)]
  simp only
  rw [if_pos h]
theorem readL_back {bs : List Int} (hb : BytesOk bs) (h : (readL bs).1.1 = 0) : (readL bs).1 = (0, 0) ∧ (checkS (readL bs).2).1 = 0 ∧ codeL (readL bs).2 = bs ∧ (∀ m ∈ (readL bs).2, Fine m) ∧ bs.length ≤ 70000 := by
  unfold readL at h ⊢
  by_cases hl : 70000 < bs.length
  · rw [if_pos hl] at h; cases h
  · rw [if_neg hl] at h ⊢
    cases hd : decS bs.length bs with
    | error k => rw [hd] at h; cases h
    | ok ms =>
      rw [hd] at h
      simp only at h ⊢
      by_cases hc : (checkS ms).1 = 0
      · rw [if_pos hc]
        obtain ⟨e, hf⟩ := dec_back _ _ _ hb hd
        refine ⟨rfl, hc, ?_, hf, by omega⟩
        unfold codeL
        rw [if_pos hc]
        exact e.symm
      · rw [if_neg hc] at h
        exact absurd h hc
theorem readL_fault {bs : List Int} (h : (readL bs).1.1 ≠ 0) : (readL bs).2 = [] := by
  unfold readL at h ⊢
  split
  · rfl
  · rename_i hl
    rw [if_neg hl] at h
    cases hd : decS bs.length bs with
    | error k => rfl
    | ok ms =>
      rw [hd] at h
      simp only at h ⊢
      split
      · rename_i hc; rw [if_pos hc] at h; exact absurd rfl h
      · rfl
theorem codeL_inj {ms ms' : List Mac} (h : (checkS ms).1 = 0) (h' : (checkS ms').1 = 0) (hi : ∀ m ∈ ms, m.ok) (hi' : ∀ m ∈ ms', m.ok) (e : codeL ms = codeL ms') : ms = ms' := by
  have h1 := read_codeL h hi
  have h2 := read_codeL h' hi'
  rw [e, h2] at h1
  exact ((Prod.mk.inj h1).2).symm

theorem and127 (d : Int) (h : 0 ≤ d ∧ d < 256) : bits BinOp.and IntKind.i64 d 127 = d % 128 := by
  have key : ∀ a : Fin 256, bits BinOp.and IntKind.i64 (a.val : Int) 127 = (a.val : Int) % 128 := by decide +kernel
  have := key ⟨d.toNat, by omega⟩
  simp only [show ((d.toNat : Nat) : Int) = d from by omega] at this
  exact this
/-- One more digit above those that are there. -/
theorem or_digit (acc d i : Nat) (ha : acc < 128 ^ i) (h64 : acc + d * 128 ^ i < 18446744073709551616) :
    bits BinOp.or IntKind.u64 (acc : Int) ((d * 128 ^ i : Nat) : Int) = ((acc + d * 128 ^ i : Nat) : Int) := by
  have e : (128 : Nat) ^ i = 2 ^ (7 * i) := by rw [Nat.pow_mul]
  rw [u64_or_nat _ _ (by omega) (by omega)]
  congr 1
  rw [e] at ha ⊢
  rw [Nat.or_comm, Nat.mul_comm, ← Nat.two_pow_add_eq_or_of_lt ha, Nat.add_comm]
end Go.Proofs.YtdldochhondifaaGreatDoor
