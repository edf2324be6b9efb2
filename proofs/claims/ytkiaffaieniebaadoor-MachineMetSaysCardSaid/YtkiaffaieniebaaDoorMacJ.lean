/-
  Several texts in one (MacI MacJ): what each proves stands at its theorems.
  Conditions: as the theorems say.
-/
import Derived.Test.YtkiaffaieniebaaDoorMacH
import Derived.Deep.QuietTactic
import Derived.BigQuiet
namespace Go.Proofs.YtkiaffaieniebaaDoor
open Go.RowKit

theorem below_drewN {B : Nat} {a w : World} (h : Below B a w) (n : Nat) : Below B a (w.drewN n) := ⟨h.os, h.tape, h.output, h.size, h.block⟩
set_option maxRecDepth 100000 in
set_option maxHeartbeats 1000000 in
theorem span_low (w : World) : Calls Tryd.prog 85 #[.int .i64 0, .int .i64 5] w fun e w' => e = .returned (.int .u64 63) ∧ Below w.heap.size w w' := by
  go_enter Tryd.func85, Tryd.ntmps85
  go_wp2
  go_quiet (fail)
  go_wp2
  go_ret
  exact ⟨rfl, below_drewN (Below.refl _ _) _⟩
set_option maxRecDepth 100000 in
set_option maxHeartbeats 1000000 in
theorem span_kept (w : World) : Calls Tryd.prog 85 #[.int .i64 6, .int .i64 13] w fun e w' => e = .returned (.int .u64 16320) ∧ Below w.heap.size w w' := by
  go_enter Tryd.func85, Tryd.ntmps85
  go_wp2
  go_quiet (fail)
  go_wp2
  go_ret
  exact ⟨rfl, below_drewN (Below.refl _ _) _⟩
set_option maxRecDepth 100000 in
set_option maxHeartbeats 1000000 in
theorem span_help (w : World) : Calls Tryd.prog 85 #[.int .i64 14, .int .i64 15] w fun e w' => e = .returned (.int .u64 49152) ∧ Below w.heap.size w w' := by
  go_enter Tryd.func85, Tryd.ntmps85
  go_wp2
  go_quiet (fail)
  go_wp2
  go_ret
  exact ⟨rfl, below_drewN (Below.refl _ _) _⟩

/-- Does an instruction read register r? -/
def rdS (m : Mac) (r : Nat) : Bool :=
  if m.op = 44 then decide (r < 6) else if m.op = 45 then decide (r = 0 ∨ (6 ≤ r ∧ r < 14)) else (shA m.op && decide (m.a = r)) || (shB m.op && decide (m.b = r))
/-- May it change register r? -/
def wrS (m : Mac) (r : Nat) : Bool :=
  if m.op = 44 then decide (r < 6 ∨ 14 ≤ r) else shD m.op && decide (m.dst = r)
/-- A number that has just the bits of P below 16. -/
def HasBits (s : Nat) (P : Nat → Bool) : Prop := Bits16 s ∧ ∀ r, r < 16 → s.testBit r = P r
theorem bits_const (s : Nat) (P : Nat → Bool) (h : (decide (s < 65536) && (List.range 16).all fun r => s.testBit r == P r) = true) : HasBits s P := by
  simp only [Bool.and_eq_true, decide_eq_true_eq, List.all_eq_true, List.mem_range, beq_iff_eq] at h
  exact ⟨h.1, h.2⟩

theorem wrap_pow (a : Nat) (h : a < 16) : IntKind.u64.wrap (2 ^ a) = ((2 ^ a : Nat) : Int) := by
  have h1 : 2 ^ a ≤ 2 ^ 15 := Nat.pow_le_pow_right (by decide) (by omega)
  have h2 : (2 : Int) ^ a = ((2 ^ a : Nat) : Int) := by simp
  have h3 : 0 < 2 ^ a := Nat.two_pow_pos a
  rw [h2, IntKind.wrap_u64]
  omega
theorem pow_lt16 (a : Nat) (h : a < 16) : 2 ^ a < 65536 := by
  have h1 : 2 ^ a ≤ 2 ^ 15 := Nat.pow_le_pow_right (by decide) (by omega)
  omega
theorem or_pow (s a : Nat) (hs : Bits16 s) (h : a < 16) : bits BinOp.or IntKind.u64 (s : Int) (IntKind.u64.wrap (2 ^ a)) = ((s ||| 2 ^ a : Nat) : Int) := by
  unfold Bits16 at hs
  rw [wrap_pow a h, u64_or_nat _ _ (by omega) (by have := pow_lt16 a h; omega)]
theorem or_lt16 (s t : Nat) (hs : Bits16 s) (ht : Bits16 t) : Bits16 (s ||| t) := by
  unfold Bits16 at *
  exact Nat.or_lt_two_pow (n := 16) hs ht
theorem or_zero (a : Nat) (h : a < 16) : bits BinOp.or IntKind.u64 0 (IntKind.u64.wrap (2 ^ a)) = ((2 ^ a : Nat) : Int) := by
  have := or_pow 0 a (by unfold Bits16; omega) h
  simpa using this
theorem ret_u64 {a b : Int} (h : a = b) : Ending.returned (.int .u64 a) = .returned (.int .u64 b) := by rw [h]
/-- The set of the registers that an instruction reads, as a number. -/
def rdN (m : Mac) : Nat :=
  if m.op = 44 then 63 else if m.op = 45 then 16321 else (if shA m.op = true then 2 ^ m.a.toNat else 0) ||| (if shB m.op = true then 2 ^ m.b.toNat else 0)
def wrN (m : Mac) : Nat :=
  if m.op = 44 then 49215 else if shD m.op = true then 2 ^ m.dst.toNat else 0
/-- The registers that it speaks of are in their range. -/
def RegsOk (m : Mac) : Prop := (shD m.op = true → 0 ≤ m.dst ∧ m.dst < 16) ∧ (shA m.op = true → 0 ≤ m.a ∧ m.a < 16) ∧ (shB m.op = true → 0 ≤ m.b ∧ m.b < 16)
theorem regs_of_fault (m : Mac) (many : Int) (h : faultS m many = 0) : isOp m.op = true ∧ RegsOk m := by
  have ho : isOp m.op = true := by
    by_cases ho : isOp m.op = true
    · exact ho
    · unfold faultS at h; rw [if_neg ho] at h; cases h
  refine ⟨ho, ?_⟩
  rw [fault_of m many ho] at h
  simp only [field_3] at h
  split at h
  · cases h
  · rename_i hn
    refine ⟨fun hd => ?_, fun ha => ?_, fun hb => ?_⟩
    · by_cases hh : 0 ≤ m.dst ∧ m.dst ≤ 15
      · omega
      · exact absurd (Or.inl ⟨hd, hh⟩) hn
    · by_cases hh : 0 ≤ m.a ∧ m.a ≤ 15
      · omega
      · exact absurd (Or.inr (Or.inl ⟨ha, hh⟩)) hn
    · by_cases hh : 0 ≤ m.b ∧ m.b ≤ 15
      · omega
      · exact absurd (Or.inr (Or.inr (Or.inl ⟨hb, hh⟩))) hn
theorem pow_bits (a : Nat) (h : a < 16) : HasBits (2 ^ a) fun r => decide (a = r) := by
  refine ⟨pow_lt16 a h, fun r _ => ?_⟩
  rw [Nat.testBit_two_pow]
theorem zero_bits : HasBits 0 fun _ => false := ⟨by unfold Bits16; omega, fun r _ => by simp⟩
theorem or_bits {s t : Nat} {P Q : Nat → Bool} (h : HasBits s P) (h' : HasBits t Q) : HasBits (s ||| t) fun r => P r || Q r :=
  ⟨or_lt16 s t h.1 h'.1, fun r hr => by rw [Nat.testBit_or, h.2 r hr, h'.2 r hr]⟩
theorem rd_bits (m : Mac) (h : RegsOk m) : HasBits (rdN m) (rdS m) := by
  by_cases h44 : m.op = 44
  · have e : rdN m = 63 := by unfold rdN; rw [if_pos h44]
    have e' : rdS m = fun r => decide (r < 6) := by funext r; unfold rdS; rw [if_pos h44]
    rw [e, e']
    exact bits_const _ _ (by decide +kernel)
  by_cases h45 : m.op = 45
  · have e : rdN m = 16321 := by unfold rdN; rw [if_neg h44, if_pos h45]
    have e' : rdS m = fun r => decide (r = 0 ∨ (6 ≤ r ∧ r < 14)) := by funext r; unfold rdS; rw [if_neg h44, if_pos h45]
    rw [e, e']
    exact bits_const _ _ (by decide +kernel)
  have e : rdN m = (if shA m.op = true then 2 ^ m.a.toNat else 0) ||| (if shB m.op = true then 2 ^ m.b.toNat else 0) := by unfold rdN; rw [if_neg h44, if_neg h45]
  have e' : rdS m = fun (r : Nat) => (shA m.op && decide (m.a = r)) || (shB m.op && decide (m.b = r)) := by funext r; unfold rdS; rw [if_neg h44, if_neg h45]
  rw [e, e']
  refine or_bits ?_ ?_
  · by_cases hA : shA m.op = true
    · have hr := h.2.1 hA
      rw [if_pos hA]
      have := pow_bits m.a.toNat (by omega)
      refine ⟨this.1, fun r hr' => ?_⟩
      rw [this.2 r hr', hA]
      show decide _ = (true && decide _)
      rw [Bool.true_and]
      exact decide_eq_decide.2 (by omega)
    · rw [if_neg hA]
      exact ⟨zero_bits.1, fun r hr' => by rw [zero_bits.2 r hr']; simp [hA]⟩
  · by_cases hB : shB m.op = true
    · have hr := h.2.2 hB
      rw [if_pos hB]
      have := pow_bits m.b.toNat (by omega)
      refine ⟨this.1, fun r hr' => ?_⟩
      rw [this.2 r hr', hB]
      show decide _ = (true && decide _)
      rw [Bool.true_and]
      exact decide_eq_decide.2 (by omega)
    · rw [if_neg hB]
      exact ⟨zero_bits.1, fun r hr' => by rw [zero_bits.2 r hr']; simp [hB]⟩
theorem wr_bits (m : Mac) (h : RegsOk m) : HasBits (wrN m) (wrS m) := by
  by_cases h44 : m.op = 44
  · have e : wrN m = 49215 := by unfold wrN; rw [if_pos h44]
    have e' : wrS m = fun r => decide (r < 6 ∨ 14 ≤ r) := by funext r; unfold wrS; rw [if_pos h44]
    rw [e, e']
    exact bits_const _ _ (by decide +kernel)
  have e : wrN m = if shD m.op = true then 2 ^ m.dst.toNat else 0 := by unfold wrN; rw [if_neg h44]
  have e' : wrS m = fun (r : Nat) => shD m.op && decide (m.dst = r) := by funext r; unfold wrS; rw [if_neg h44]
  rw [e, e']
  by_cases hD : shD m.op = true
  · have hr := h.1 hD
    rw [if_pos hD]
    have := pow_bits m.dst.toNat (by omega)
    refine ⟨this.1, fun r hr' => ?_⟩
    rw [this.2 r hr', hD]
    show decide _ = (true && decide _)
    rw [Bool.true_and]
    exact decide_eq_decide.2 (by omega)
  · rw [if_neg hD]
    exact ⟨zero_bits.1, fun r hr' => by rw [zero_bits.2 r hr']; simp [hD]⟩

set_option maxRecDepth 100000 in
set_option maxHeartbeats 2000000 in
theorem reads_any (op dst a b n : Int) (w : World) (ht : Tab w) (hr : RegsOk ⟨op, dst, a, b, n⟩) :
    Calls Tryd.prog 62 #[.agg #[.int .i64 op, .int .i64 dst, .int .i64 a, .int .i64 b, .int .i64 n]] w fun e w' => e = .returned (.int .u64 (rdN ⟨op, dst, a, b, n⟩)) ∧ Below w.heap.size w w' := by
  have HT := Lib.hid ht
  have HR := Lib.hid hr
  clear ht hr
  by_cases h44 : op = 44
  · have He : Hid (rdN ⟨op, dst, a, b, n⟩ = 63) := Lib.hid (by unfold rdN; rw [if_pos h44])
    subst h44
    go_enter Tryd.func62, Tryd.ntmps62
    go_wp2_with fail
    refine (span_low _).mono ?_
    rintro e w1 ⟨rfl, hb1⟩
    go_wp2_with fail
    go_ret
    exact ⟨by rw [He.out]; rfl, ((Below.refl _ _).alloc (Nat.le_refl _) _).trans (hb1.mono (by simp))⟩
  by_cases h45 : op = 45
  · have He : Hid (rdN ⟨op, dst, a, b, n⟩ = 16321) := Lib.hid (by unfold rdN; rw [if_neg h44, if_pos h45])
    subst h45
    clear h44
    go_enter Tryd.func62, Tryd.ntmps62
    go_wp2_with fail
    refine (span_kept _).mono ?_
    rintro e w1 ⟨rfl, hb1⟩
    go_wp2_with fail
    go_ret
    exact ⟨by rw [He.out]; rfl, ((Below.refl _ _).alloc (Nat.le_refl _) _).trans (hb1.mono (by simp))⟩
  have He : Hid (rdN ⟨op, dst, a, b, n⟩ = (if shA op = true then 2 ^ a.toNat else 0) ||| (if shB op = true then 2 ^ b.toNat else 0)) := Lib.hid (by unfold rdN; rw [if_neg h44, if_neg h45])
  have b1 : (op == 44) = false := by simp; omega
  have b2 : (op == 45) = false := by simp; omega
  clear h44 h45
  rcases Bool.eq_false_or_eq_true (shA op) with hA | hA <;> rcases Bool.eq_false_or_eq_true (shB op) with hB | hB
  · obtain ⟨a', rfl⟩ := Int.eq_ofNat_of_zero_le (HR.out.2.1 hA).1
    have ha : a' < 16 := by have := (HR.out.2.1 hA).2; simp at this; omega
    simp only [Int.toNat_natCast] at He
    obtain ⟨b', rfl⟩ := Int.eq_ofNat_of_zero_le (HR.out.2.2 hB).1
    have hb : b' < 16 := by have := (HR.out.2.2 hB).2; simp at this; omega
    simp only [Int.toNat_natCast] at He
    have HA := Lib.hid hA
    have HB := Lib.hid hB
    clear hA hB HR
    go_enter Tryd.func62, Tryd.ntmps62
    go_wp2_with fail
    refine (Of_any _ _ (HT.out.own ((Below.refl _ _).alloc (Nat.le_refl _) _))).mono ?_
    rintro e w1 ⟨rfl, hb1⟩
    rw [HA.out, HB.out]
    have hz : w.heap.size < w1.heap.size := by have := hb1.size; simp at this; omega
    have c2 : w1.cell? ⟨w.heap.size, 2, none⟩ = some (.int .i64 (a' : Int)) := by rw [bcell hb1 (by simp)]; simp
    have c3 : w1.cell? ⟨w.heap.size, 3, none⟩ = some (.int .i64 (b' : Int)) := by rw [bcell hb1 (by simp)]; simp
    have HB1 : Hid (Below w.heap.size w w1) := Lib.hid (((Below.refl _ _).alloc (Nat.le_refl _) _).trans (hb1.mono (by simp)))
    clear hb1
    go_wp2_with fail
    go_ret
    exact ⟨ret_u64 (by rw [He.out, HA.out, HB.out, if_pos rfl, if_pos rfl, or_zero _ ha, or_pow _ _ (pow_lt16 _ ha) hb]; try simp), HB1.out.alloc HB1.out.size _⟩
  · obtain ⟨a', rfl⟩ := Int.eq_ofNat_of_zero_le (HR.out.2.1 hA).1
    have ha : a' < 16 := by have := (HR.out.2.1 hA).2; simp at this; omega
    simp only [Int.toNat_natCast] at He
    have HA := Lib.hid hA
    have HB := Lib.hid hB
    clear hA hB HR
    go_enter Tryd.func62, Tryd.ntmps62
    go_wp2_with fail
    refine (Of_any _ _ (HT.out.own ((Below.refl _ _).alloc (Nat.le_refl _) _))).mono ?_
    rintro e w1 ⟨rfl, hb1⟩
    rw [HA.out, HB.out]
    have hz : w.heap.size < w1.heap.size := by have := hb1.size; simp at this; omega
    have c2 : w1.cell? ⟨w.heap.size, 2, none⟩ = some (.int .i64 (a' : Int)) := by rw [bcell hb1 (by simp)]; simp
    have HB1 : Hid (Below w.heap.size w w1) := Lib.hid (((Below.refl _ _).alloc (Nat.le_refl _) _).trans (hb1.mono (by simp)))
    clear hb1
    go_wp2_with fail
    go_ret
    exact ⟨ret_u64 (by rw [He.out, HA.out, HB.out, if_pos rfl, if_neg (by simp), or_zero _ ha]; try simp), HB1.out.alloc HB1.out.size _⟩
  · obtain ⟨b', rfl⟩ := Int.eq_ofNat_of_zero_le (HR.out.2.2 hB).1
    have hb : b' < 16 := by have := (HR.out.2.2 hB).2; simp at this; omega
    simp only [Int.toNat_natCast] at He
    have HA := Lib.hid hA
    have HB := Lib.hid hB
    clear hA hB HR
    go_enter Tryd.func62, Tryd.ntmps62
    go_wp2_with fail
    refine (Of_any _ _ (HT.out.own ((Below.refl _ _).alloc (Nat.le_refl _) _))).mono ?_
    rintro e w1 ⟨rfl, hb1⟩
    rw [HA.out, HB.out]
    have hz : w.heap.size < w1.heap.size := by have := hb1.size; simp at this; omega
    have c3 : w1.cell? ⟨w.heap.size, 3, none⟩ = some (.int .i64 (b' : Int)) := by rw [bcell hb1 (by simp)]; simp
    have HB1 : Hid (Below w.heap.size w w1) := Lib.hid (((Below.refl _ _).alloc (Nat.le_refl _) _).trans (hb1.mono (by simp)))
    clear hb1
    go_wp2_with fail
    go_ret
    exact ⟨ret_u64 (by rw [He.out, HA.out, HB.out, if_neg (by simp), if_pos rfl, or_zero _ hb]; try simp), HB1.out.alloc HB1.out.size _⟩
  · have HA := Lib.hid hA
    have HB := Lib.hid hB
    clear hA hB HR
    go_enter Tryd.func62, Tryd.ntmps62
    go_wp2_with fail
    refine (Of_any _ _ (HT.out.own ((Below.refl _ _).alloc (Nat.le_refl _) _))).mono ?_
    rintro e w1 ⟨rfl, hb1⟩
    rw [HA.out, HB.out]
    have hz : w.heap.size < w1.heap.size := by have := hb1.size; simp at this; omega
    have HB1 : Hid (Below w.heap.size w w1) := Lib.hid (((Below.refl _ _).alloc (Nat.le_refl _) _).trans (hb1.mono (by simp)))
    clear hb1
    go_wp2_with fail
    go_ret
    exact ⟨ret_u64 (by rw [He.out, HA.out, HB.out]; simp), HB1.out.alloc HB1.out.size _⟩
set_option maxRecDepth 100000 in
set_option maxHeartbeats 2000000 in
theorem writes_any (op dst a b n : Int) (w : World) (ht : Tab w) (hr : RegsOk ⟨op, dst, a, b, n⟩) :
    Calls Tryd.prog 63 #[.agg #[.int .i64 op, .int .i64 dst, .int .i64 a, .int .i64 b, .int .i64 n]] w fun e w' => e = .returned (.int .u64 (wrN ⟨op, dst, a, b, n⟩)) ∧ Below w.heap.size w w' := by
  have HT := Lib.hid ht
  have HR := Lib.hid hr
  clear ht hr
  by_cases h44 : op = 44
  · have He : Hid (wrN ⟨op, dst, a, b, n⟩ = 49215) := Lib.hid (by unfold wrN; rw [if_pos h44])
    subst h44
    go_enter Tryd.func63, Tryd.ntmps63
    go_wp2_with fail
    refine (Of_any _ _ (HT.out.own ((Below.refl _ _).alloc (Nat.le_refl _) _))).mono ?_
    rintro e w1 ⟨rfl, hb1⟩
    have hz : w.heap.size < w1.heap.size := by have := hb1.size; simp at this; omega
    have c0 : w1.cell? ⟨w.heap.size, 0, none⟩ = some (.int .i64 44) := by rw [bcell hb1 (by simp)]; simp
    have HB1 : Hid (Below w.heap.size w w1) := Lib.hid (((Below.refl _ _).alloc (Nat.le_refl _) _).trans (hb1.mono (by simp)))
    clear hb1
    go_wp2_with fail
    refine (span_low _).mono ?_
    rintro e w2 ⟨rfl, hb2⟩
    have HB2 := Lib.hid hb2
    clear hb2
    go_wp2_with fail
    refine (span_help _).mono ?_
    rintro e w3 ⟨rfl, hb3⟩
    have HB3 := Lib.hid hb3
    clear hb3
    go_wp2_with fail
    go_ret
    have hs := HB1.out.size
    have hs2 := HB2.out.size
    simp at hs2
    exact ⟨by rw [He.out]; rfl, ((HB1.out.alloc hs _).trans (HB2.out.mono (by simp; omega))).trans (HB3.out.mono (by omega))⟩
  have He : Hid (wrN ⟨op, dst, a, b, n⟩ = if shD op = true then 2 ^ dst.toNat else 0) := Lib.hid (by unfold wrN; rw [if_neg h44])
  have b1 : (op == 44) = false := by simp; omega
  clear h44
  rcases Bool.eq_false_or_eq_true (shD op) with hD | hD
  · obtain ⟨d', rfl⟩ := Int.eq_ofNat_of_zero_le (HR.out.1 hD).1
    have hd : d' < 16 := by have := (HR.out.1 hD).2; simp at this; omega
    simp only [Int.toNat_natCast] at He
    have HD := Lib.hid hD
    clear hD HR
    go_enter Tryd.func63, Tryd.ntmps63
    go_wp2_with fail
    refine (Of_any _ _ (HT.out.own ((Below.refl _ _).alloc (Nat.le_refl _) _))).mono ?_
    rintro e w1 ⟨rfl, hb1⟩
    rw [HD.out]
    have hz : w.heap.size < w1.heap.size := by have := hb1.size; simp at this; omega
    have c0 : w1.cell? ⟨w.heap.size, 0, none⟩ = some (.int .i64 op) := by rw [bcell hb1 (by simp)]; simp
    have c1 : w1.cell? ⟨w.heap.size, 1, none⟩ = some (.int .i64 (d' : Int)) := by rw [bcell hb1 (by simp)]; simp
    have HB1 : Hid (Below w.heap.size w w1) := Lib.hid (((Below.refl _ _).alloc (Nat.le_refl _) _).trans (hb1.mono (by simp)))
    clear hb1
    go_wp2_with fail
    go_ret
    exact ⟨ret_u64 (by rw [He.out, HD.out, if_pos rfl]; exact wrap_pow _ hd), HB1.out.alloc HB1.out.size _⟩
  · have HD := Lib.hid hD
    clear hD HR
    go_enter Tryd.func63, Tryd.ntmps63
    go_wp2_with fail
    refine (Of_any _ _ (HT.out.own ((Below.refl _ _).alloc (Nat.le_refl _) _))).mono ?_
    rintro e w1 ⟨rfl, hb1⟩
    rw [HD.out]
    have hz : w.heap.size < w1.heap.size := by have := hb1.size; simp at this; omega
    have c0 : w1.cell? ⟨w.heap.size, 0, none⟩ = some (.int .i64 op) := by rw [bcell hb1 (by simp)]; simp
    have HB1 : Hid (Below w.heap.size w w1) := Lib.hid (((Below.refl _ _).alloc (Nat.le_refl _) _).trans (hb1.mono (by simp)))
    clear hb1
    go_wp2_with fail
    go_ret
    exact ⟨ret_u64 (by rw [He.out, HD.out]; simp), HB1.out.alloc HB1.out.size _⟩
end Go.Proofs.YtkiaffaieniebaaDoor
namespace Go.Proofs.YtkiaffaieniebaaDoor
open Go.RowKit

/-- The numbers below k of which P holds, rising. -/
def listP (P : Nat → Bool) (k : Nat) : List Int := ((List.range k).filter P).map fun (r : Nat) => (r : Int)
theorem listP_succ (P : Nat → Bool) (k : Nat) : listP P (k + 1) = if P k then listP P k ++ [(k : Int)] else listP P k := by
  unfold listP
  rw [List.range_succ, List.filter_append, List.map_append]
  by_cases h : P k <;> simp [h]
theorem listP_len (P : Nat → Bool) (k : Nat) : (listP P k).length ≤ k := by
  unfold listP
  rw [List.length_map]
  exact Nat.le_trans (List.length_filter_le _ _) (by simp)
theorem bitsTo_eq {s : Nat} {P : Nat → Bool} (h : HasBits s P) : bitsTo s 16 = listP P 16 := by
  unfold bitsTo listP
  rw [List.filter_congr fun r hr => h.2 r (List.mem_range.1 hr)]
/-- What a function that tells registers comes to. -/
def RegsPost (w : World) (c : Int) (xs : List Int) (e : Ending) (w' : World) : Prop :=
  ∃ v, e = .returned (.tuple #[v, .agg #[.int .i64 c, .int .i64 0]]) ∧ IntsAt w' w'.heap.size v xs ∧ Below w.heap.size w w'
/-- The registers that are told: none, if something is wrong. -/
def rdL (m : Mac) : List Int := if faultS m 5000 = 0 then listP (rdS m) 16 else []
def wrL (m : Mac) : List Int := if faultS m 5000 = 0 then listP (wrS m) 16 else []
theorem ints_nil (w : World) (B : Nat) : IntsAt w B (.slice none 0 0) [] := ⟨none, 0, rfl, by simp, by omega, fun h => by simp at h⟩
theorem OwnInts.set {w : World} {base : Nat} {v : Value} {xs : List Int} (h : OwnInts w base v xs) {b o : Nat} (hb : b < base) (u : Value) : OwnInts (w.setCell ⟨b, o, none⟩ u) base v xs :=
  ownsRow_setCell_below (a := ⟨b, o, none⟩) h hb u

end Go.Proofs.YtkiaffaieniebaaDoor
