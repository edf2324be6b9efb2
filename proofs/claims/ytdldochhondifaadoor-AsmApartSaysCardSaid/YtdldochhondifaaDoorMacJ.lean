/-
  Several texts in one (MacI MacJ): what each proves stands at its theorems.
  Conditions: as the theorems say.
-/
import Derived.Test.YtdldochhondifaaDoorMacH
import Derived.Deep.QuietTactic
import Derived.BigQuiet
namespace Go.Proofs.YtdldochhondifaaDoor
open Go.RowKit

theorem below_drewN {B : Nat} {a w : World} (h : Below B a w) (n : Nat) : Below B a (w.drewN n) := ⟨h.os, h.tape, h.output, h.size, h.block⟩
/-- Does an instruction read register r? -/
def rdS (m : Mac) (r : Nat) : Bool :=
  if m.op = 44 then decide (r < 6) else if m.op = 45 then decide (r = 0 ∨ (6 ≤ r ∧ r < 14)) else (shA m.op && decide (m.a = r)) || (shB m.op && decide (m.b = r))
/-- May it change register r? -/
def wrS (m : Mac) (r : Nat) : Bool :=
  if m.op = 44 then decide (r < 6 ∨ 14 ≤ r) else shD m.op && decide (m.dst = r)
/-- A number that has just the bits of P below 16. -/
def HasBits (s : Nat) (P : Nat → Bool) : Prop := Bits16 s ∧ ∀ r, r < 16 → s.testBit r = P r
theorem bits_const (s : Nat) (P : Nat → Bool) (h : (decide (s < 65536) && (List.range 16).all fun r => s.testBit r == P r) = true) : HasBits s P := by
  simp only [Bool.and_eq_true, decide_eq_true_eq, List.all_eq_true, List.mem_range, beq_iff_eq] at h
  exact ⟨h.1, h.2⟩

theorem wrap_pow (a : Nat) (h : a < 16) : IntKind.u64.wrap (2 ^ a) = ((2 ^ a : Nat) : Int) := by
  have h1 : 2 ^ a ≤ 2 ^ 15 := Nat.pow_le_pow_right (by decide) (by omega)
  have h2 : (2 : Int) ^ a = ((2 ^ a : Nat) : Int) := by simp
  have h3 : 0 < 2 ^ a := Nat.two_pow_pos a
  rw [h2, IntKind.wrap_u64]
  omega
theorem pow_lt16 (a : Nat) (h : a < 16) : 2 ^ a < 65536 := by
  have h1 : 2 ^ a ≤ 2 ^ 15 := Nat.pow_le_pow_right (by decide) (by omega)
  omega
theorem or_pow (s a : Nat) (hs : Bits16 s) (h : a < 16) : bits BinOp.or IntKind.u64 (s : Int) (IntKind.u64.wrap (2 ^ a)) = ((s ||| 2 ^ a : Nat) : Int) := by
  unfold Bits16 at hs
  rw [wrap_pow a h, u64_or_nat _ _ (by omega) (by have := pow_lt16 a h; omega)]
theorem or_lt16 (s t : Nat) (hs : Bits16 s) (ht : Bits16 t) : Bits16 (s ||| t) := by
  unfold Bits16 at *
  exact Nat.or_lt_two_pow (n := 16) hs ht
theorem or_zero (a : Nat) (h : a < 16) : bits BinOp.or IntKind.u64 0 (IntKind.u64.wrap (2 ^ a)) = ((2 ^ a : Nat) : Int) := by
  have := or_pow 0 a (by unfold Bits16; omega) h
  simpa using this
theorem ret_u64 {a b : Int} (h : a = b) : Ending.returned (.int .u64 a) = .returned (.int .u64 b) := by rw [h]
/-- The set of the registers that an instruction reads, as a number. -/
def rdN (m : Mac) : Nat :=
  if m.op = 44 then 63 else if m.op = 45 then 16321 else (if shA m.op = true then 2 ^ m.a.toNat else 0) ||| (if shB m.op = true then 2 ^ m.b.toNat else 0)
def wrN (m : Mac) : Nat :=
  if m.op = 44 then 49215 else if shD m.op = true then 2 ^ m.dst.toNat else 0
/-- The registers that it speaks of are in their range. -/
def RegsOk (m : Mac) : Prop := (shD m.op = true → 0 ≤ m.dst ∧ m.dst < 16) ∧ (shA m.op = true → 0 ≤ m.a ∧ m.a < 16) ∧ (shB m.op = true → 0 ≤ m.b ∧ m.b < 16)
theorem regs_of_fault (m : Mac) (many : Int) (h : faultS m many = 0) : isOp m.op = true ∧ RegsOk m := by
  have ho : isOp m.op = true := by
    by_cases ho : isOp m.op = true
    · exact ho
    · unfold faultS at h; rw [if_neg ho] at h; cases h
  refine ⟨ho, ?_⟩
  rw [fault_of m many ho] at h
  simp only [field_3] at h
  split at h
  · cases h
  · rename_i hn
    refine ⟨fun hd => ?_, fun ha => ?_, fun hb => ?_⟩
    · by_cases hh : 0 ≤ m.dst ∧ m.dst ≤ 15
      · omega
      · exact absurd (Or.inl ⟨hd, hh⟩) hn
    · by_cases hh : 0 ≤ m.a ∧ m.a ≤ 15
      · omega
      · exact absurd (Or.inr (Or.inl ⟨ha, hh⟩)) hn
    · by_cases hh : 0 ≤ m.b ∧ m.b ≤ 15
      · omega
      · exact absurd (Or.inr (Or.inr (Or.inl ⟨hb, hh⟩))) hn
theorem pow_bits (a : Nat) (h : a < 16) : HasBits (2 ^ a) fun r => decide (a = r) := by
  refine ⟨pow_lt16 a h, fun r _ => ?_⟩
  rw [Nat.testBit_two_pow]
theorem zero_bits : HasBits 0 fun _ => false := ⟨by unfold Bits16; omega, fun r _ => by simp⟩
theorem or_bits {s t : Nat} {P Q : Nat → Bool} (h : HasBits s P) (h' : HasBits t Q) : HasBits (s ||| t) fun r => P r || Q r :=
  ⟨or_lt16 s t h.1 h'.1, fun r hr => by rw [Nat.testBit_or, h.2 r hr, h'.2 r hr]⟩
theorem rd_bits (m : Mac) (h : RegsOk m) : HasBits (rdN m) (rdS m) := by
  by_cases h44 : m.op = 44
  · have e : rdN m = 63 := by unfold rdN; rw [if_pos h44]
    have e' : rdS m = fun r => decide (r < 6) := by funext r; unfold rdS; rw [if_pos h44]
    rw [e, e']
    exact bits_const _ _ (by decide +kernel)
  by_cases h45 : m.op = 45
  · have e : rdN m = 16321 := by unfold rdN; rw [if_neg h44, if_pos h45]
    have e' : rdS m = fun r => decide (r = 0 ∨ (6 ≤ r ∧ r < 14)) := by funext r; unfold rdS; rw [if_neg h44, if_pos h45]
    rw [e, e']
    exact bits_const _ _ (by decide +kernel)
  have e : rdN m = (if shA m.op = true then 2 ^ m.a.toNat else 0) ||| (if shB m.op = true then 2 ^ m.b.toNat else 0) := by unfold rdN; rw [if_neg h44, if_neg h45]
  have e' : rdS m = fun (r : Nat) => (shA m.op && decide (m.a = r)) || (shB m.op && decide (m.b = r)) := by funext r; unfold rdS; rw [if_neg h44, if_neg h45]
  rw [e, e']
  refine or_bits ?_ ?_
  · by_cases hA : shA m.op = true
    · have hr := h.2.1 hA
      rw [if_pos hA]
      have := pow_bits m.a.toNat (by omega)
      refine ⟨this.1, fun r hr' => ?_⟩
      rw [this.2 r hr', hA]
      show decide _ = (true && decide _)
      rw [Bool.true_and]
      exact decide_eq_decide.2 (by omega)
    · rw [if_neg hA]
      exact ⟨zero_bits.1, fun r hr' => by rw [zero_bits.2 r hr']; simp [hA]⟩
  · by_cases hB : shB m.op = true
    · have hr := h.2.2 hB
      rw [if_pos hB]
      have := pow_bits m.b.toNat (by omega)
      refine ⟨this.1, fun r hr' => ?_⟩
      rw [this.2 r hr', hB]
      show decide _ = (true && decide _)
      rw [Bool.true_and]
      exact decide_eq_decide.2 (by omega)
    · rw [if_neg hB]
      exact ⟨zero_bits.1, fun r hr' => by rw [zero_bits.2 r hr']; simp [hB]⟩
theorem wr_bits (m : Mac) (h : RegsOk m) : HasBits (wrN m) (wrS m) := by
  by_cases h44 : m.op = 44
  · have e : wrN m = 49215 := by unfold wrN; rw [if_pos h44]
    have e' : wrS m = fun r => decide (r < 6 ∨ 14 ≤ r) := by funext r; unfold wrS; rw [if_pos h44]
    rw [e, e']
    exact bits_const _ _ (by decide +kernel)
  have e : wrN m = if shD m.op = true then 2 ^ m.dst.toNat else 0 := by unfold wrN; rw [if_neg h44]
  have e' : wrS m = fun (r : Nat) => shD m.op && decide (m.dst = r) := by funext r; unfold wrS; rw [if_neg h44]
  rw [e, e']
  by_cases hD : shD m.op = true
  · have hr := h.1 hD
    rw [if_pos hD]
    have := pow_bits m.dst.toNat (by omega)
    refine ⟨this.1, fun r hr' => ?_⟩
    rw [this.2 r hr', hD]
    show decide _ = (true && decide _)
    rw [Bool.true_and]
    exact decide_eq_decide.2 (by omega)
  · rw [if_neg hD]
    exact ⟨zero_bits.1, fun r hr' => by rw [zero_bits.2 r hr']; simp [hD]⟩

end Go.Proofs.YtdldochhondifaaDoor
namespace Go.Proofs.YtdldochhondifaaDoor
open Go.RowKit

/-- The numbers below k of which P holds, rising. -/
def listP (P : Nat → Bool) (k : Nat) : List Int := ((List.range k).filter P).map fun (r : Nat) => (r : Int)
theorem listP_succ (P : Nat → Bool) (k : Nat) : listP P (k + 1) = if P k then listP P k ++ [(k : Int)] else listP P k := by
  unfold listP
  rw [List.range_succ, List.filter_append, List.map_append]
  by_cases h : P k <;> simp [h]
theorem listP_len (P : Nat → Bool) (k : Nat) : (listP P k).length ≤ k := by
  unfold listP
  rw [List.length_map]
  exact Nat.le_trans (List.length_filter_le _ _) (by simp)
theorem bitsTo_eq {s : Nat} {P : Nat → Bool} (h : HasBits s P) : bitsTo s 16 = listP P 16 := by
  unfold bitsTo listP
  rw [List.filter_congr fun r hr => h.2 r (List.mem_range.1 hr)]
/-- What a function that tells registers comes to. -/
def RegsPost (w : World) (c : Int) (xs : List Int) (e : Ending) (w' : World) : Prop :=
  ∃ v, e = .returned (.tuple #[v, .agg #[.int .i64 c, .int .i64 0]]) ∧ IntsAt w' w'.heap.size v xs ∧ Below w.heap.size w w'
/-- The registers that are told: none, if something is wrong. -/
def rdL (m : Mac) : List Int := if faultS m 5000 = 0 then listP (rdS m) 16 else []
def wrL (m : Mac) : List Int := if faultS m 5000 = 0 then listP (wrS m) 16 else []
theorem ints_nil (w : World) (B : Nat) : IntsAt w B (.slice none 0 0) [] := ⟨none, 0, rfl, by simp, by omega, fun h => by simp at h⟩
theorem OwnInts.set {w : World} {base : Nat} {v : Value} {xs : List Int} (h : OwnInts w base v xs) {b o : Nat} (hb : b < base) (u : Value) : OwnInts (w.setCell ⟨b, o, none⟩ u) base v xs :=
  ownsRow_setCell_below (a := ⟨b, o, none⟩) h hb u

end Go.Proofs.YtdldochhondifaaDoor
