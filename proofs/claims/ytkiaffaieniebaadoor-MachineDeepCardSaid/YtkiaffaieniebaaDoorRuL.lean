/-
  Two runs (plain): a loop that goes round as often as it reads, a routine that calls itself.
  Conditions: none.
-/
import Derived.Test.YtkiaffaieniebaaDoorRuQ
namespace Go.Proofs.YtkiaffaieniebaaDoor
open Go.RowKit

theorem run_go {codes : List (List Mac)} {s : Mch} {k : Nat} {t : Mch} (h : runS codes s k = t) (ho : t.over = false) : runS codes s (k + 1) = stepS codes t := by
  rw [(run_succ (by rw [h]; exact ho)).1, h]
def loopC : List Mac := [⟨46, 1, 0, 0, 0⟩, ⟨43, 0, 1, 2, 6⟩, ⟨47, 0, 2, 0, 0⟩, ⟨5, 0, 0, 2, 0⟩, ⟨19, 2, 2, 0, 1⟩, ⟨37, 0, 0, 0, 1⟩, ⟨45, 0, 0, 0, 0⟩]
/-- The loop's state ahead of its test, after i rounds. -/
def loopAt (mem : List Int) (k : Int) (i : Nat) (s : Int) (pc st : Nat) (out : List Int) : Mch :=
  ⟨[s, k, i, 0, 0, 0, 0, 0, 0, 0, 0, 0, 0, 0, 0, 0], mem, [⟨0, pc, List.replicate 120 0⟩], [], out, st, 0, 0, false⟩
def sumTo (i : Nat) : Int := ((List.range i).map fun (j : Nat) => (j : Int)).foldl (· + ·) 0
def outTo (i : Nat) : List Int := (List.range i).map fun (j : Nat) => (j : Int)
theorem sumTo_succ (i : Nat) : sumTo (i + 1) = sumTo i + i := by unfold sumTo; rw [List.range_succ, List.map_append, List.foldl_append]; rfl
theorem sumTo_twice (i : Nat) : 2 * sumTo i = (i : Int) * ((i : Int) - 1) := by
  induction i with
  | zero => rfl
  | succ i ih =>
    rw [sumTo_succ, Int.mul_add, ih]
    have : ((i + 1 : Nat) : Int) = (i : Int) + 1 := by omega
    rw [this]
    have e : (i : Int) + 1 - 1 = i := by omega
    rw [e, Int.mul_sub, Int.add_mul]
    omega
theorem sumTo_pos (i : Nat) : 0 ≤ sumTo i ∧ sumTo i ≤ (i : Int) * (i : Int) := by
  induction i with
  | zero => exact ⟨by decide, by decide⟩
  | succ i ih =>
    rw [sumTo_succ]
    have : ((i + 1 : Nat) : Int) = (i : Int) + 1 := by omega
    rw [this, Int.add_mul, Int.mul_add]
    omega
theorem outTo_succ (i : Nat) : outTo (i + 1) = outTo i ++ [(i : Int)] := by unfold outTo; rw [List.range_succ, List.map_append]; rfl
section
variable {mem : List Int} {k : Int} {i st : Nat} {s : Int} {out : List Int}
theorem loop_test (h : (i : Int) < k) : stepS [loopC] (loopAt mem k i s 1 st out) = loopAt mem k i s 2 (st + 1) out := by
  have : ¬ k ≤ (i : Int) := by omega
  simp [stepS, loopAt, doS, macAt, loopC, goesS, Mch.reg, Mch.begun, Fr.next, this]
theorem loop_last (h : k ≤ (i : Int)) : stepS [loopC] (loopAt mem k i s 1 st out) = loopAt mem k i s 6 (st + 1) out := by
  simp [stepS, loopAt, doS, macAt, loopC, goesS, Mch.reg, Mch.begun, Fr.next, h]
theorem loop_print (h : out.length ≠ 200) : stepS [loopC] (loopAt mem k i s 2 st out) = loopAt mem k i s 3 (st + 1) (out ++ [(i : Int)]) := by
  simp [stepS, loopAt, doS, macAt, loopC, speaksS, printS, Mch.reg, Mch.begun, Fr.next, h]
theorem loop_add (h : wrap64 (s + i) = s + i) : stepS [loopC] (loopAt mem k i s 3 st out) = loopAt mem k i (s + i) 4 (st + 1) out := by
  simp [stepS, loopAt, doS, macAt, loopC, reckS, twoS, Mch.set, Mch.reg, Mch.begun, Fr.next, h]
theorem loop_next (h : wrap64 ((i : Int) + 1) = (i : Int) + 1) : stepS [loopC] (loopAt mem k i s 4 st out) = loopAt mem k (i + 1) s 5 (st + 1) out := by
  simp [stepS, loopAt, doS, macAt, loopC, reckS, twoS, Mch.set, Mch.reg, Mch.begun, Fr.next, h]
theorem loop_back : stepS [loopC] (loopAt mem k i s 5 st out) = loopAt mem k i s 1 (st + 1) out := by
  simp [stepS, loopAt, doS, macAt, loopC, goesS, Mch.begun, Fr.next]
theorem loop_done : stepS [loopC] (loopAt mem k i s 6 st out) = ⟨[s, k, i, 0, 0, 0, 0, 0, 0, 0, 0, 0, 0, 0, 0, 0], mem, [], [], out, st + 1, 0, s, true⟩ := by
  simp [stepS, loopAt, doS, macAt, loopC, speaksS, retS, Mch.reg, Mch.begun]
theorem loop_read : stepS [loopC] (startS mem [k]) = loopAt mem k 0 0 1 1 [] := by
  simp [stepS, loopAt, doS, macAt, loopC, speaksS, readM, startS, Mch.begun, Fr.next, List.replicate_succ]
end
theorem loop_rounds (mem : List Int) (k : Nat) (hk : k < 60) : ∀ i, i ≤ k → runS [loopC] (startS mem [(k : Int)]) (5 * i + 1) = loopAt mem k i (sumTo i) 1 (5 * i + 1) (outTo i) := by
  intro i
  induction i with
  | zero => intro _; exact (run_go (k := 0) rfl rfl).trans loop_read
  | succ i ih =>
    intro hi
    have h0 := ih (by omega)
    obtain ⟨p1, p2⟩ := sumTo_pos i
    have p3 : (i : Int) * (i : Int) ≤ 60 * 60 := Int.mul_le_mul (by omega) (by omega) (by omega) (by omega)
    have hw1 : wrap64 (sumTo i + i) = sumTo i + i := by unfold wrap64; omega
    have hw2 : wrap64 ((i : Int) + 1) = (i : Int) + 1 := by unfold wrap64; omega
    have h1 := (run_go h0 rfl).trans (loop_test (by omega))
    have h2 := (run_go h1 rfl).trans (loop_print (by unfold outTo; simp; omega))
    have h3 := (run_go h2 rfl).trans (loop_add hw1)
    have h4 := (run_go h3 rfl).trans (loop_next hw2)
    have h5 := (run_go h4 rfl).trans loop_back
    rw [← sumTo_succ, ← outTo_succ] at h5
    exact h5
theorem loop_run (mem : List Int) (k : Nat) (hk : k < 60) : runS [loopC] (startS mem [(k : Int)]) 400 = ⟨[sumTo k, k, k, 0, 0, 0, 0, 0, 0, 0, 0, 0, 0, 0, 0, 0], mem, [], [], outTo k, 5 * k + 3, 0, sumTo k, true⟩ := by
  have h0 := loop_rounds mem k hk k (Nat.le_refl _)
  have h1 := (run_go h0 rfl).trans (loop_last (Int.le_refl _))
  have h2 := (run_go h1 rfl).trans loop_done
  rw [(run_over (by rw [h2]) 400 (by omega)).1, h2]

def deepC : List Mac := [⟨46, 0, 0, 0, 0⟩, ⟨39, 0, 0, 0, 3⟩, ⟨44, 0, 0, 0, 0⟩, ⟨45, 0, 0, 0, 0⟩]
def zs120 : List Int := List.replicate 120 0
/-- So many calls wait, the newest stands at pc. -/
def deepAt (mem : List Int) (r : Int) (n pc st : Nat) (inp : List Int) : Mch :=
  ⟨[r, 0, 0, 0, 0, 0, 0, 0, 0, 0, 0, 0, 0, 0, 0, 0], mem, ⟨0, pc, zs120⟩ :: List.replicate n ⟨0, 3, zs120⟩, inp, [], st, 0, 0, false⟩
section
variable {mem : List Int} {r x : Int} {n st : Nat} {inp : List Int}
theorem deep_read : stepS [deepC] (deepAt mem r n 0 st (x :: inp)) = deepAt mem x n 1 (st + 1) inp := by
  simp [stepS, deepAt, doS, macAt, deepC, speaksS, readM, Mch.begun, Fr.next]
theorem deep_none : stepS [deepC] (deepAt mem r n 0 st []) = deepAt mem (-1) n 1 (st + 1) [] := by
  simp [stepS, deepAt, doS, macAt, deepC, speaksS, readM, Mch.set, Mch.begun, Fr.next]
theorem deep_on (h : r ≠ 0) : stepS [deepC] (deepAt mem r n 1 st inp) = deepAt mem r n 2 (st + 1) inp := by
  simp [stepS, deepAt, doS, macAt, deepC, goesS, Mch.reg, Mch.begun, Fr.next, h]
theorem deep_off : stepS [deepC] (deepAt mem 0 n 1 st inp) = deepAt mem 0 n 3 (st + 1) inp := by
  simp [stepS, deepAt, doS, macAt, deepC, goesS, Mch.reg, Mch.begun, Fr.next]
theorem deep_call (h : n + 1 ≠ 30) : stepS [deepC] (deepAt mem r n 2 st inp) = deepAt mem r (n + 1) 0 (st + 1) inp := by
  simp [stepS, deepAt, doS, macAt, deepC, speaksS, callS, Mch.begun, Fr.next, List.replicate_succ, zs120]
  omega
theorem deep_full : stepS [deepC] (deepAt mem r 29 2 st inp) = Mch.ends (deepAt mem r 29 3 (st + 1) inp) 4 := by
  simp [stepS, deepAt, doS, macAt, deepC, speaksS, callS, Mch.begun, Fr.next, Mch.ends]
theorem deep_back : stepS [deepC] (deepAt mem r (n + 1) 3 st inp) = deepAt mem r n 3 (st + 1) inp := by
  simp [stepS, deepAt, doS, macAt, deepC, speaksS, retS, Mch.begun, List.replicate_succ]
theorem deep_done : stepS [deepC] (deepAt mem r 0 3 st inp) = ⟨[r, 0, 0, 0, 0, 0, 0, 0, 0, 0, 0, 0, 0, 0, 0, 0], mem, [], inp, [], st + 1, 0, r, true⟩ := by
  simp [stepS, deepAt, doS, macAt, deepC, speaksS, retS, Mch.reg, Mch.begun]
theorem deep_start : startS mem inp = deepAt mem 0 0 0 0 inp := by
  simp [startS, deepAt, zs120, List.replicate_succ]
end
theorem deep_down (mem : List Int) (k : Nat) (hk : k < 30) : ∀ i, i ≤ k → ∃ r, runS [deepC] (startS mem (List.replicate k 1 ++ [0])) (3 * i) = deepAt mem r i 0 (3 * i) (List.replicate (k - i) 1 ++ [0]) := by
  intro i
  induction i with
  | zero => intro _; exact ⟨0, deep_start⟩
  | succ i ih =>
    intro hi
    obtain ⟨r, h0⟩ := ih (by omega)
    rw [show k - i = (k - (i + 1)) + 1 by omega, List.replicate_succ, List.cons_append] at h0
    have h1 := (run_go h0 rfl).trans deep_read
    have h2 := (run_go h1 rfl).trans (deep_on (by decide))
    have h3 := (run_go h2 rfl).trans (deep_call (by omega))
    exact ⟨1, h3⟩
theorem deep_up (mem : List Int) (k st : Nat) (s0 : Mch) (n : Nat) (h : runS [deepC] s0 n = deepAt mem 0 k 3 st []) : ∀ j, j ≤ k → runS [deepC] s0 (n + j) = deepAt mem 0 (k - j) 3 (st + j) [] := by
  intro j
  induction j with
  | zero => intro _; exact h
  | succ j ih =>
    intro hj
    have h0 := ih (by omega)
    rw [show k - j = (k - (j + 1)) + 1 by omega] at h0
    exact (run_go h0 rfl).trans deep_back
theorem deep_run (mem : List Int) (k : Nat) (hk : k < 30) : ∃ v, runS [deepC] (startS mem (List.replicate k 1 ++ [0])) 400 = v ∧ v.over = true ∧ v.state = 0 ∧ v.steps = 4 * k + 3 := by
  obtain ⟨r, h0⟩ := deep_down mem k hk k (Nat.le_refl _)
  rw [Nat.sub_self, List.replicate_zero, List.nil_append] at h0
  have h1 := (run_go h0 rfl).trans deep_read
  have h2 := (run_go h1 rfl).trans deep_off
  have h3 := deep_up mem k _ _ _ h2 k (Nat.le_refl _)
  rw [Nat.sub_self] at h3
  have h4 := (run_go h3 rfl).trans deep_done
  refine ⟨_, rfl, ?_⟩
  rw [(run_over (by rw [h4]) 400 (by omega)).1, h4]
  refine ⟨rfl, rfl, ?_⟩
  show 3 * k + 1 + 1 + k + 1 = 4 * k + 3
  omega
theorem deep_sink (mem : List Int) : ∀ i, i ≤ 29 → ∃ r, runS [deepC] (startS mem []) (3 * i) = deepAt mem r i 0 (3 * i) [] := by
  intro i
  induction i with
  | zero => intro _; exact ⟨0, deep_start⟩
  | succ i ih =>
    intro hi
    obtain ⟨r, h0⟩ := ih (by omega)
    have h1 := (run_go h0 rfl).trans deep_none
    have h2 := (run_go h1 rfl).trans (deep_on (by decide))
    have h3 := (run_go h2 rfl).trans (deep_call (by omega))
    exact ⟨-1, h3⟩
theorem deep_over (mem : List Int) : ∃ v, runS [deepC] (startS mem []) 400 = v ∧ v.over = true ∧ v.state = 4 ∧ v.steps = 90 := by
  obtain ⟨r, h0⟩ := deep_sink mem 29 (Nat.le_refl _)
  have h1 := (run_go h0 rfl).trans deep_none
  have h2 := (run_go h1 rfl).trans (deep_on (by decide))
  have h3 := (run_go h2 rfl).trans deep_full
  refine ⟨_, rfl, ?_⟩
  rw [(run_over (by rw [h3]; rfl) 400 (by omega)).1, h3]
  exact ⟨rfl, rfl, rfl⟩
end Go.Proofs.YtkiaffaieniebaaDoor
