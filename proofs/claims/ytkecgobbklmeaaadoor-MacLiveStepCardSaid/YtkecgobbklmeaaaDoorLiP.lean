/-
  Plain facts on live registers: the least sets that hold what is read, and what is live behind and not written.
  Conditions: none (no program in sight).
-/
import Derived.Test.YtkecgobbklmeaaaDoorMacM
namespace Go.Proofs.YtkecgobbklmeaaaDoor
open Go.RowKit

/-- May instruction i go on at k? -/
def goB (m : Mac) (i k : Nat) : Bool := decide (m.op ≠ 45) && ((hasS (fldS m.op) 116 && decide (m.n = (k : Int))) || (decide (m.op ≠ 37) && decide (k = i + 1)))
/-- Is register r live ahead of m, instruction i, if X tells where it is live? -/
def stepB (ms : List Mac) (r : Nat) (X : Nat → Bool) (i : Nat) : Bool := match ms[i]? with
  | none => false
  | some m => rdS m r || (!wrS m r && (List.range ms.length).any fun k => goB m i k && X k)
theorem stepB_mono {ms : List Mac} {r : Nat} {X Y : Nat → Bool} (h : ∀ k, k < ms.length → X k = true → Y k = true) (i : Nat) (hs : stepB ms r X i = true) : stepB ms r Y i = true := by
  unfold stepB at *
  split at hs
  · cases hs
  · simp only [Bool.or_eq_true, Bool.and_eq_true, List.any_eq_true, List.mem_range] at *
    rcases hs with hs | ⟨h1, k, hk, h2, h3⟩
    · exact .inl hs
    · exact .inr ⟨h1, k, hk, h2, h k hk h3⟩
def Shut (ms : List Mac) (r : Nat) (X : Nat → Bool) : Prop := ∀ i, i < ms.length → stepB ms r X i = true → X i = true
def LiveP (ms : List Mac) (r i : Nat) : Prop := ∀ X, Shut ms r X → X i = true
open Classical in
noncomputable def liveB (ms : List Mac) (r i : Nat) : Bool := decide (LiveP ms r i)
theorem liveB_iff (ms : List Mac) (r i : Nat) : liveB ms r i = true ↔ LiveP ms r i := by unfold liveB; simp
theorem live_in {ms : List Mac} {r : Nat} {X : Nat → Bool} (hX : ∀ k, k < ms.length → X k = true → LiveP ms r k) (i : Nat) (hi : i < ms.length) (h : stepB ms r X i = true) : LiveP ms r i := by
  intro Y hY
  exact hY i hi (stepB_mono (fun k hk hx => hX k hk hx Y hY) i h)
theorem live_shut (ms : List Mac) (r : Nat) : Shut ms r (liveB ms r) := fun i hi h =>
  (liveB_iff ms r i).2 (live_in (fun k _ hk => (liveB_iff ms r k).1 hk) i hi h)
/-- A register is live ahead of an instruction just if it reads it, or does not write it and it is live behind. -/
theorem live_step (ms : List Mac) (r i : Nat) (hi : i < ms.length) : liveB ms r i = stepB ms r (liveB ms r) i := by
  rw [Bool.eq_iff_iff]
  constructor
  · intro h
    refine (liveB_iff ms r i).1 h (stepB ms r (liveB ms r)) fun j hj hs => ?_
    exact stepB_mono (fun k hk hx => live_shut ms r k hk hx) j hs
  · exact live_shut ms r i hi
theorem live_unread (ms : List Mac) (r : Nat) (h : ∀ m ∈ ms, rdS m r = false) (i : Nat) : liveB ms r i = false := by
  cases hl : liveB ms r i with
  | false => rfl
  | true =>
    have := (liveB_iff ms r i).1 hl (fun _ => false) fun j hj hs => by
      unfold stepB at hs
      split at hs
      · cases hs
      · rename_i m hm
        rw [h m (List.mem_of_getElem? hm)] at hs
        simp at hs
    cases this
/-- What has been found so far: no more than what is live. -/
def Found (ms : List Mac) (r : Nat) (X : Nat → Bool) : Prop := ∀ k, k < ms.length → X k = true → LiveP ms r k
theorem found_none (ms : List Mac) (r : Nat) : Found ms r fun _ => false := fun _ _ h => by cases h
theorem found_set {ms : List Mac} {r : Nat} {X : Nat → Bool} (h : Found ms r X) {i : Nat} (hi : i < ms.length) (hs : stepB ms r X i = true) : Found ms r fun k => if k = i then true else X k := by
  intro k hk hx
  by_cases e : k = i
  · subst e
    exact live_in h k hi hs
  · simp only [if_neg e] at hx
    exact h k hk hx
theorem found_end {ms : List Mac} {r : Nat} {X : Nat → Bool} (h : Found ms r X) (hc : Shut ms r X) (i : Nat) (hi : i < ms.length) : X i = liveB ms r i := by
  rw [Bool.eq_iff_iff, liveB_iff]
  exact ⟨h i hi, fun hl => hl X hc⟩

/-- How many of the first n are not found yet. -/
def missN (X : Nat → Bool) : Nat → Nat
  | 0 => 0
  | n + 1 => missN X n + if X n then 0 else 1
theorem missN_le (X : Nat → Bool) (n : Nat) : missN X n ≤ n := by
  induction n with
  | zero => exact Nat.le_refl _
  | succ n ih => unfold missN; split <;> omega
theorem missN_congr {X Y : Nat → Bool} : ∀ n, (∀ k, k < n → X k = Y k) → missN X n = missN Y n
  | 0, _ => rfl
  | n + 1, h => by unfold missN; rw [missN_congr n fun k hk => h k (by omega), h n (by omega)]
theorem missN_set {X : Nat → Bool} {i : Nat} (hx : X i = false) : ∀ n, i < n → missN (fun k => if k = i then true else X k) n + 1 = missN X n
  | 0, h => absurd h (Nat.not_lt_zero _)
  | n + 1, h => by
    unfold missN
    by_cases e : n = i
    · subst e
      rw [missN_congr n (fun k hk => if_neg (by omega)), hx]
      simp
    · rw [if_neg e]
      have := missN_set hx n (by omega)
      omega
/-- The same of the sets of all registers at once. -/
def missS (S : Nat → Nat) : Nat → Nat
  | 0 => 0
  | n + 1 => missS S n + missN (fun r => (S n).testBit r) 16
theorem missS_congr {S T : Nat → Nat} : ∀ n, (∀ k, k < n → S k = T k) → missS S n = missS T n
  | 0, _ => rfl
  | n + 1, h => by unfold missS; rw [missS_congr n fun k hk => h k (by omega), h n (by omega)]
theorem missN_mono {X Y : Nat → Bool} : ∀ n, (∀ k, k < n → X k = true → Y k = true) → missN Y n ≤ missN X n
  | 0, _ => Nat.le_refl _
  | n + 1, h => by
    unfold missN
    have := missN_mono n fun k hk => h k (by omega)
    have h2 := h n (by omega)
    cases hx : X n <;> cases hy : Y n <;> simp_all <;> omega
theorem missN_lt {X Y : Nat → Bool} {i : Nat} (hx : X i = false) (hy : Y i = true) : ∀ n, (∀ k, k < n → X k = true → Y k = true) → i < n → missN Y n < missN X n
  | 0, _, h => absurd h (Nat.not_lt_zero _)
  | n + 1, hm, h => by
    unfold missN
    by_cases e : n = i
    · subst e
      have := missN_mono n fun k hk => hm k (by omega)
      rw [hx, hy]
      simp
      omega
    · have := missN_lt hx hy n (fun k hk => hm k (by omega)) (by omega)
      have h2 := hm n (by omega)
      cases hx' : X n <;> cases hy' : Y n <;> simp_all <;> omega
theorem missS_set {S : Nat → Nat} {i s : Nat} (hlt : missN (fun r => s.testBit r) 16 < missN (fun r => (S i).testBit r) 16) : ∀ n, i < n → missS (fun k => if k = i then s else S k) n < missS S n
  | 0, h => absurd h (Nat.not_lt_zero _)
  | n + 1, h => by
    unfold missS
    by_cases e : n = i
    · subst e
      rw [missS_congr n (fun k hk => if_neg (by omega))]
      simp
      omega
    · rw [if_neg e]
      have := missS_set hlt n (by omega)
      omega
theorem testBit_ge16 {s : Nat} (hs : Bits16 s) {r : Nat} (hr : 16 ≤ r) : s.testBit r = false :=
  Nat.testBit_lt_two_pow (Nat.lt_of_lt_of_le hs (by rw [show (65536 : Nat) = 2 ^ 16 by decide]; exact Nat.pow_le_pow_right (by decide) hr))
/-- Two sets that differ: if one holds the other, it lacks fewer. -/
theorem miss_less {s t : Nat} (hs : Bits16 s) (ht : Bits16 t) (hne : s ≠ t) (hsub : ∀ r, r < 16 → t.testBit r = true → s.testBit r = true) : missN (fun r => s.testBit r) 16 < missN (fun r => t.testBit r) 16 := by
  by_cases h : ∃ r, r < 16 ∧ t.testBit r = false ∧ s.testBit r = true
  · obtain ⟨r, hr, h1, h2⟩ := h
    exact missN_lt h1 h2 16 hsub hr
  · exfalso
    apply hne
    apply Nat.eq_of_testBit_eq
    intro r
    by_cases hr : r < 16
    · cases h1 : t.testBit r with
      | true => exact hsub r hr h1
      | false =>
        cases h2 : s.testBit r with
        | false => rfl
        | true => exact absurd ⟨r, hr, h1, h2⟩ h
    · rw [testBit_ge16 hs (by omega), testBit_ge16 ht (by omega)]
end Go.Proofs.YtkecgobbklmeaaaDoor
