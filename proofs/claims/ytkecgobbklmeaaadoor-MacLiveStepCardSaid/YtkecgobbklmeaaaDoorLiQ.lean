/-
  Plain facts on the program's way to live registers: sets as numbers, the successors as a list.
  Conditions: none (no program in sight).
-/
import Derived.Test.YtkecgobbklmeaaaDoorLiA
namespace Go.Proofs.YtkecgobbklmeaaaDoor
open Go.RowKit

/-- Where it may go on behind instruction i. -/
def nextL (m : Mac) (i : Nat) : List Int := if m.op = 45 then [] else if m.op = 37 then [m.n] else if shK m.op = 2 then [(i : Int) + 1, m.n] else [(i : Int) + 1]
theorem nextL_len (m : Mac) (i : Nat) : (nextL m i).length ≤ 2 := by unfold nextL; (repeat' split) <;> simp
theorem jump_target : hasS (fldS 37) 116 = true := by decide +kernel
theorem kind_target (op : Int) (h : isOp op = true) : hasS (fldS op) 116 = true ↔ shK op = 2 := by
  rcases (fld_cases _ h).2 with ⟨_, e2, _, _, e5⟩ | ⟨_, e2, _, _, e5⟩ | ⟨_, e2, _, _, e5⟩ | ⟨_, e2, _, _, e5⟩ | ⟨_, e2, _, _, e5⟩ <;> rw [e2, e5] <;> simp
/-- The successors lie in the code. -/
theorem next_in {ms : List Mac} {i : Nat} {m : Mac} (hm : ms[i]? = some m) (hf : faultS m (ms.length : Int) = 0) (hlast : ∀ m, ms[ms.length - 1]? = some m → m.op = 37 ∨ m.op = 45) : ∀ k ∈ nextL m i, 0 ≤ k ∧ k < (ms.length : Int) := by
  have hi := (List.getElem?_eq_some_iff.1 hm).1
  have ho := ((fault_zero m _).1 hf).1
  have hnext : ¬ (m.op = 37 ∨ m.op = 45) → i + 1 < ms.length := by
    intro h
    rcases Nat.lt_or_ge (i + 1) ms.length with h1 | h1
    · exact h1
    · exfalso
      have : i = ms.length - 1 := by omega
      subst this
      exact h (hlast m hm)
  intro k hk
  unfold nextL at hk
  split at hk
  · cases hk
  split at hk
  · rename_i h37
    rw [List.mem_singleton.1 hk]
    exact target_in hf (by rw [h37]; exact jump_target)
  split at hk
  · rename_i h45 h37 h2
    have := hnext (by omega)
    simp only [List.mem_cons, List.not_mem_nil, or_false] at hk
    rcases hk with rfl | rfl
    · omega
    · exact target_in hf ((kind_target _ ho).2 h2)
  · rename_i h45 h37 h2
    have := hnext (by omega)
    rw [List.mem_singleton.1 hk]
    omega
theorem step_next {ms : List Mac} {r : Nat} {X : Nat → Bool} {j : Nat} {m : Mac} (hm : ms[j]? = some m) (hf : faultS m (ms.length : Int) = 0) (hlast : ∀ m, ms[ms.length - 1]? = some m → m.op = 37 ∨ m.op = 45) :
    stepB ms r X j = (rdS m r || ((nextL m j).any (fun k => X k.toNat) && !wrS m r)) := by
  have hin := next_in hm hf hlast
  have ho := ((fault_zero m _).1 hf).1
  unfold stepB
  rw [hm]
  simp only
  congr 1
  rw [Bool.and_comm]
  congr 1
  rw [Bool.eq_iff_iff, List.any_eq_true, List.any_eq_true]
  simp only [List.mem_range, Bool.and_eq_true]
  constructor
  · rintro ⟨k, hk, hg, hx⟩
    unfold goB at hg
    simp only [Bool.and_eq_true, Bool.or_eq_true, decide_eq_true_eq] at hg
    obtain ⟨h45, hg⟩ := hg
    refine ⟨(k : Int), ?_, by simpa using hx⟩
    unfold nextL
    rw [if_neg h45]
    rcases hg with ⟨h1, h2⟩ | ⟨h1, h2⟩
    · rw [← h2]
      split
      · simp
      · rw [if_pos ((kind_target _ ho).1 h1)]
        simp
    · rw [if_neg h1, h2]
      split <;> simp
  · rintro ⟨k, hk, hx⟩
    have hkin := hin k hk
    refine ⟨k.toNat, by omega, ?_, hx⟩
    unfold goB
    simp only [Bool.and_eq_true, Bool.or_eq_true, decide_eq_true_eq]
    unfold nextL at hk
    split at hk
    · cases hk
    rename_i h45
    refine ⟨h45, ?_⟩
    split at hk
    · rename_i h37
      left
      rw [List.mem_singleton.1 hk] at hkin ⊢
      exact ⟨by rw [h37]; exact jump_target, by omega⟩
    rename_i h37
    split at hk
    · rename_i h2
      simp only [List.mem_cons, List.not_mem_nil, or_false] at hk
      rcases hk with rfl | rfl
      · right
        exact ⟨h37, by omega⟩
      · left
        exact ⟨(kind_target _ ho).2 h2, by omega⟩
    · right
      rw [List.mem_singleton.1 hk]
      exact ⟨h37, by omega⟩
/-- All sets of a list's places, as one. -/
def orS (S : Nat → Nat) (l : List Int) : Nat := l.foldl (fun a k => a ||| S k.toNat) 0
theorem orS_snoc (S : Nat → Nat) (l : List Int) (k : Int) : orS S (l ++ [k]) = orS S l ||| S k.toNat := by unfold orS; rw [List.foldl_append]; rfl
theorem or_fold_bits (S : Nat → Nat) (hS : ∀ i, Bits16 (S i)) : ∀ (l : List Int) (a : Nat), Bits16 a → Bits16 (l.foldl (fun a k => a ||| S k.toNat) a) ∧ ∀ r, (l.foldl (fun a k => a ||| S k.toNat) a).testBit r = (a.testBit r || l.any fun k => (S k.toNat).testBit r)
  | [], a, ha => ⟨ha, fun r => by simp⟩
  | k :: l, a, ha => by
    have := or_fold_bits S hS l (a ||| S k.toNat) (or_lt16 _ _ ha (hS _))
    refine ⟨this.1, fun r => ?_⟩
    rw [List.foldl_cons, this.2, Nat.testBit_or, List.any_cons, Bool.or_assoc]
theorem or_all_bits (S : Nat → Nat) (hS : ∀ i, Bits16 (S i)) (l : List Int) : Bits16 (orS S l) ∧ ∀ r, (orS S l).testBit r = l.any fun k => (S k.toNat).testBit r := by
  have := or_fold_bits S hS l 0 (by unfold Bits16; omega)
  refine ⟨this.1, fun r => ?_⟩
  rw [show orS S l = l.foldl (fun a k => a ||| S k.toNat) 0 from rfl, this.2]
  simp
/-- What the program makes of an instruction's set. -/
def setS (m : Mac) (u : Nat) : Nat := rdN m ||| (u &&& (18446744073709551615 - wrN m))
theorem set_bits (m : Mac) (h : RegsOk m) (u : Nat) (hu : Bits16 u) : Bits16 (setS m u) ∧ ∀ r, r < 16 → (setS m u).testBit r = (rdS m r || (u.testBit r && !wrS m r)) := by
  have hr := rd_bits m h
  have hw := wr_bits m h
  have hwlt : wrN m < 65536 := hw.1
  have hb : Bits16 (u &&& (18446744073709551615 - wrN m)) := by
    unfold Bits16 at *
    exact Nat.lt_of_le_of_lt Nat.and_le_left hu
  refine ⟨or_lt16 _ _ hr.1 hb, fun r hr16 => ?_⟩
  unfold setS
  rw [Nat.testBit_or, hr.2 r hr16, Nat.testBit_and, show (18446744073709551615 : Nat) - wrN m = 2 ^ 64 - (wrN m + 1) by omega, Nat.testBit_two_pow_sub_succ (by omega), hw.2 r hr16]
  simp [show r < 64 by omega]
theorem set_reckon (m : Mac) (h : RegsOk m) (u : Nat) (hu : Bits16 u) : bits .or .u64 (rdN m : Int) (bits .andNot .u64 (u : Int) (wrN m : Int)) = (setS m u : Int) := by
  have hr := (rd_bits m h).1
  have hw := (wr_bits m h).1
  unfold Bits16 at *
  have h1 : u &&& (18446744073709551615 - wrN m) ≤ u := Nat.and_le_left
  rw [u64_andNot_nat _ _ (by omega) (by omega), u64_or_nat _ _ (by omega) (by omega)]
  rfl
end Go.Proofs.YtkecgobbklmeaaaDoor
