/-
  The reference's line of an instruction.
  Conditions: the instruction is a known one; routines are named by a list, or by their numbers where it is empty.
-/
import Derived.Test.YtdldochhondifaaGreatDoorAsF
namespace Go.Proofs.YtdldochhondifaaGreatDoor
open Go.RowKit
attribute [local go_sem] Oper.semAt_some

/-- The slice value v reads as the texts ss, below block B. -/
def StrsAt (w : World) (B : Nat) (v : Value) (ss : List (List UInt8)) : Prop :=
  ∃ (A : Option Addr) (c : Nat), v = .slice A ss.length c ∧ ss.length ≤ c ∧ c ≤ 9223372036854775807 ∧
    (0 < ss.length → ∃ b off, A = some ⟨b, off, none⟩ ∧ b < B ∧ ∀ (k : Nat) (x : List UInt8), ss[k]? = some x → w.cell? ⟨b, off + k, none⟩ = some (.string (mkS x)))
theorem StrsAt.nil (w : World) (B : Nat) : StrsAt w B (.slice none 0 0) [] := ⟨none, 0, rfl, by simp, by omega, fun h => by simp at h⟩
theorem StrsAt.below {W w1 : World} {B B' : Nat} {v : Value} {ss : List (List UInt8)} (h : StrsAt W B v ss) (hb : Below B' W w1) (hB : B ≤ B') : StrsAt w1 B v ss := by
  obtain ⟨A, c, e, h1, h2, h3⟩ := h
  refine ⟨A, c, e, h1, h2, fun hl => ?_⟩
  obtain ⟨b, off, e1, e2, e3⟩ := h3 hl
  exact ⟨b, off, e1, e2, fun k m hk => (bcell hb (Nat.lt_of_lt_of_le e2 hB)).trans (e3 k m hk)⟩
theorem StrsAt.more {w : World} {B B' : Nat} {v : Value} {ss : List (List UInt8)} (h : StrsAt w B v ss) (hB : B ≤ B') : StrsAt w B' v ss := by
  obtain ⟨A, c, e, h1, h2, h3⟩ := h
  refine ⟨A, c, e, h1, h2, fun hl => ?_⟩
  obtain ⟨b, off, e1, e2, e3⟩ := h3 hl
  exact ⟨b, off, e1, by omega, e3⟩
/-- How a routine is named. -/
def rtN (nl : List (List UInt8)) (n : Int) : List UInt8 := if nl.length = 0 then Lib.itoa n else nl.getD n.toNat []
def sepL (i : Nat) : List UInt8 := if i = 0 then [32] else [44, 32]
def outTo (rt : Int → List UInt8) (m : Mac) (k : Nat) : List UInt8 := [32, 32] ++ wordL m.op ++ ((List.range k).map fun i => sepL i ++ partL m rt ((ordL m.op).getD i 0)).flatten
theorem outTo_zero (rt : Int → List UInt8) (m : Mac) : outTo rt m 0 = [32, 32] ++ wordL m.op := by unfold outTo; simp
theorem outTo_succ (rt : Int → List UInt8) (m : Mac) (k : Nat) : outTo rt m (k + 1) = outTo rt m k ++ sepL k ++ partL m rt ((ordL m.op).getD k 0) := by
  unfold outTo
  rw [List.range_succ, List.map_append, List.flatten_append]
  simp [List.append_assoc]
theorem outTo_all (rt : Int → List UInt8) (m : Mac) : outTo rt m (ordL m.op).length ++ [10] = lineL rt m := by
  unfold outTo lineL partsL
  have h := ord_len m.op
  generalize ordL m.op = o at h ⊢
  match o, h with
  | [], _ => simp
  | [a], _ => simp [List.range_succ, sepL, Lib.join_one]
  | [a, b], _ => simp [List.range_succ, sepL, Lib.join_cons, Lib.joinTail]
  | [a, b, c], _ => simp [List.range_succ, sepL, Lib.join_cons, Lib.joinTail]
  | a :: b :: c :: d :: r, h => exact absurd h (by simp)
theorem outTo_len {m : Mac} {rt : Int → List UInt8} (hm : m.ok) (hr : (rt m.n).length ≤ 100) : ∀ (k : Nat), (outTo rt m k).length ≤ 8 + 102 * k
  | 0 => by
    rw [outTo_zero, List.length_append]
    have := word_len m.op
    simp
    omega
  | k + 1 => by
    rw [outTo_succ, List.length_append, List.length_append]
    have h1 := outTo_len hm hr k
    have h2 := part_len (rt := rt) hm hr ((ordL m.op).getD k 0)
    have h3 : (sepL k).length ≤ 2 := by unfold sepL; split <;> simp
    omega
theorem ord_letters {op : Int} (h : isOp op = true) : ∀ c ∈ ordL op, c = 100 ∨ c = 97 ∨ c = 98 ∨ c = 116 ∨ (c = 114 ∧ shK op = 4) ∨ c = 110 ∨ c = 119 := by
  obtain ⟨h1, h2⟩ := (isOp_iff op).1 h
  by_cases hA : 5 ≤ op ∧ op ≤ 18
  · have e : ordL op = [100, 97, 98] := by unfold ordL fldL; rw [if_neg (by omega), if_neg (by omega), if_pos hA]
    rw [e]
    intro c hc
    simp only [List.mem_cons, List.not_mem_nil, or_false] at hc
    rcases hc with rfl | rfl | rfl <;> simp
  by_cases hB : 19 ≤ op ∧ op ≤ 32
  · have e : ordL op = [100, 97, 110] := by unfold ordL fldL; rw [if_neg (by omega), if_neg (by omega), if_neg (by omega), if_pos hB]
    rw [e]
    intro c hc
    simp only [List.mem_cons, List.not_mem_nil, or_false] at hc
    rcases hc with rfl | rfl | rfl <;> simp
  by_cases hC : 40 ≤ op ∧ op ≤ 43
  · have e : ordL op = [97, 98, 116] := by unfold ordL fldL; rw [if_neg (by omega), if_neg (by omega), if_neg (by omega), if_neg (by omega), if_pos hC]
    rw [e]
    intro c hc
    simp only [List.mem_cons, List.not_mem_nil, or_false] at hc
    rcases hc with rfl | rfl | rfl <;> simp
  obtain rfl | rfl | rfl | rfl | rfl | rfl | rfl | rfl | rfl | rfl | rfl | rfl | rfl | rfl | rfl :
    op = 1 ∨ op = 2 ∨ op = 3 ∨ op = 4 ∨ op = 33 ∨ op = 34 ∨ op = 35 ∨ op = 36 ∨ op = 37 ∨ op = 38 ∨ op = 39 ∨ op = 44 ∨ op = 45 ∨ op = 46 ∨ op = 47 := by omega
  all_goals decide
end Go.Proofs.YtdldochhondifaaGreatDoor
