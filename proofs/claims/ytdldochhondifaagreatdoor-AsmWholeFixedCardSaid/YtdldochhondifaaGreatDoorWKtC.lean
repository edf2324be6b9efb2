/-
  Texts of the claim AsmWholeFixed (ByC KtP KtC): what each proves stands at its theorems.
  Conditions: as the theorems say.
-/
import Derived.StillTailTactics
import Derived.Maps.AppendAt
import Derived.Deep.RegionLaw
import Derived.Deep.AppendLies
import Derived.Deep.DeepCutAuto
import Derived.Deep.RegionHeld3
import Derived.Deep.DrawnRows
import Derived.Test.YtdldochhondifaaGreatDoorWKitD
namespace Go.Proofs.YtdldochhondifaaGreatDoor
open Go.RowKit

/-- The registers that an instruction speaks of. -/
def regsS (m : Mac) : List Int := (if shD m.op then [m.dst] else []) ++ (if shA m.op then [m.a] else []) ++ (if shB m.op then [m.b] else [])
/-- Two by two to a byte. -/
def packS : List Int → List Int
  | [] => []
  | [x] => [x]
  | x :: y :: l => (16 * x + y) :: packS l
def codeS (m : Mac) : List Int := m.op :: (packS (regsS m) ++ if shK m.op = 0 then [] else numS (foldS m.n))
theorem regs_len (m : Mac) : (regsS m).length ≤ 3 := by unfold regsS; split <;> split <;> split <;> simp
theorem regs_in (m : Mac) (h : RegsOk m) : ∀ x ∈ regsS m, 0 ≤ x ∧ x < 16 := by
  obtain ⟨h1, h2, h3⟩ := h
  intro x hx
  unfold regsS at hx
  simp only [List.mem_append] at hx
  rcases hx with (hx | hx) | hx
  · split at hx
    · rw [List.mem_singleton.1 hx]; exact h1 ‹_›
    · cases hx
  · split at hx
    · rw [List.mem_singleton.1 hx]; exact h2 ‹_›
    · cases hx
  · split at hx
    · rw [List.mem_singleton.1 hx]; exact h3 ‹_›
    · cases hx
theorem pack_len : ∀ rs : List Int, (packS rs).length ≤ rs.length
  | [] => by simp [packS]
  | [x] => by simp [packS]
  | x :: y :: l => by have := pack_len l; simp [packS]; omega
theorem OwnInts.snoc {w : World} {base : Nat} {v : Value} {xs : List Int} {x : Int} (h : w.ownsRow base 3 1 v (xs.length + 1) (xs.map (Value.int .i64) ++ [.int .i64 x])) : OwnInts w base v (xs ++ [x]) := by
  unfold OwnInts
  rw [List.length_append, List.map_append]
  exact h
theorem OwnB.snoc {w : World} {base : Nat} {v : Value} {xs : List Int} {x : Int} (h : w.ownsRow base 5 1 v (xs.length + 1) (xs.map (Value.int .u8) ++ [.int .u8 x])) : OwnB w base v (xs ++ [x]) := by
  unfold OwnB
  rw [List.length_append, List.map_append]
  exact h
theorem OwnInts.more {w : World} {base base' : Nat} {v : Value} {xs : List Int} (h : OwnInts w base v xs) (hb : base' ≤ base) : OwnInts w base' v xs := by
  obtain ⟨h1, h2⟩ := h
  refine ⟨h1, ?_⟩
  rcases h2 with h2 | ⟨g, cap, cur, e, hg, h3⟩
  · exact .inl h2
  · exact .inr ⟨g, cap, cur, e, by omega, h3⟩

theorem below_drew {B : Nat} {a w : World} (h : Below B a w) : Below B a w.drew := ⟨h.os, h.tape, h.output, h.size, h.block⟩
theorem MacAt.row {w : World} {b : Nat} {m : Mac} (h : MacAt w b 0 m) : w.cell? ⟨b, 1, none⟩ = some (.int .i64 m.dst) ∧ w.cell? ⟨b, 2, none⟩ = some (.int .i64 m.a) ∧ w.cell? ⟨b, 3, none⟩ = some (.int .i64 m.b) ∧ w.cell? ⟨b, 4, none⟩ = some (.int .i64 m.n) := by
  obtain ⟨_, h1, h2, h3, h4⟩ := h
  simp only [Nat.zero_add] at h1 h2 h3 h4
  exact ⟨h1, h2, h3, h4⟩

end Go.Proofs.YtdldochhondifaaGreatDoor
namespace Go.Proofs.YtdldochhondifaaGreatDoor
open Go.RowKit

/-- A number read from its digit i on. -/
def rnS (i : Nat) : List Int → Option (Nat × List Int)
  | [] => none
  | d :: l =>
    if 9 < i ∨ (i = 9 ∧ 1 < d) ∨ (d = 0 ∧ 0 < i) then none
    else if d < 128 then some (d.toNat * 128 ^ i, l)
    else match rnS (i + 1) l with
      | none => none
      | some (n, l') => some ((d - 128).toNat * 128 ^ i + n, l')
/-- All are bytes. -/
def BytesOk (l : List Int) : Prop := ∀ x ∈ l, 0 ≤ x ∧ x < 256
theorem pow128 : (128 : Nat) ^ 9 = 9223372036854775808 := by decide
theorem rn_num (n : Nat) : ∀ (i : Nat) (l : List Int), n * 128 ^ i < 18446744073709551616 → (0 < i → 0 < n) → rnS i (numS n ++ l) = some (n * 128 ^ i, l) := by
  induction n using Nat.strongRecOn with
  | _ n ih =>
    intro i l hn hi
    have h9 : i ≤ 9 := by
      rcases Nat.lt_or_ge 9 i with h | h
      · exfalso
        have h1 : 128 ^ 10 ≤ 128 ^ i := Nat.pow_le_pow_right (by decide) h
        have h2 : 128 ^ 10 = 1180591620717411303424 := by decide
        have h3 : 0 < n := hi (by omega)
        have h4 : 128 ^ i ≤ n * 128 ^ i := Nat.le_mul_of_pos_left _ h3
        omega
      · exact h
    by_cases hs : n < 128
    · rw [numS_small n hs]
      unfold rnS
      simp only [List.cons_append, List.nil_append]
      rw [if_neg, if_pos (by omega)]
      · simp
      · rintro (h | ⟨h, h'⟩ | ⟨h, h'⟩)
        · omega
        · subst h
          rw [pow128] at hn
          omega
        · have := hi h'
          omega
    · rw [numS_big n hs, List.cons_append]
      unfold rnS
      have hd : n / 128 * 128 ^ (i + 1) + n % 128 * 128 ^ i = n * 128 ^ i := by
        rw [Nat.pow_succ, Nat.mul_comm (128 ^ i) 128, ← Nat.mul_assoc, ← Nat.add_mul]
        congr 1
        omega
      have h8 : i ≠ 9 := by
        intro h
        subst h
        rw [pow128] at hn
        omega
      rw [if_neg (by omega), if_neg (by omega), ih (n / 128) (by omega) (i + 1) l (by omega) (by omega)]
      simp only [Option.some.injEq, Prod.mk.injEq, and_true]
      rw [show (((n % 128 + 128 : Nat) : Int) - 128).toNat = n % 128 by omega]
      omega
theorem rn_back : ∀ (l : List Int) (i n : Nat) (l' : List Int), BytesOk l → rnS i l = some (n, l') → ∃ m, n = m * 128 ^ i ∧ l = numS m ++ l' ∧ (0 < i → 0 < m) ∧ i ≤ 9 ∧ m * 128 ^ i < 18446744073709551616
  | [], i, n, l', _, h => by unfold rnS at h; cases h
  | d :: l, i, n, l', hb, h => by
    have hd := hb d (by simp)
    unfold rnS at h
    split at h
    · cases h
    rename_i hc
    have h9 : i ≤ 9 := by omega
    have hp : 128 ^ i ≤ 128 ^ 9 := Nat.pow_le_pow_right (by decide) h9
    rw [pow128] at hp
    split at h
    · rename_i hlt
      simp only [Option.some.injEq, Prod.mk.injEq] at h
      obtain ⟨rfl, rfl⟩ := h
      refine ⟨d.toNat, rfl, ?_, by omega, h9, ?_⟩
      · rw [numS_small _ (by omega)]
        simp
        omega
      · rcases Nat.lt_or_ge i 9 with h8 | h8
        · have h1 : 128 ^ i ≤ 128 ^ 8 := Nat.pow_le_pow_right (by decide) (by omega)
          have h2 : 128 ^ 8 = 72057594037927936 := by decide
          have h3 : d.toNat * 128 ^ i ≤ 127 * 128 ^ i := Nat.mul_le_mul_right _ (by omega)
          omega
        · obtain rfl : i = 9 := by omega
          rw [pow128]
          omega
    · rename_i hge
      have h8 : i < 9 := by omega
      split at h
      · cases h
      rename_i q l'' hq
      simp only [Option.some.injEq, Prod.mk.injEq] at h
      obtain ⟨rfl, rfl⟩ := h
      obtain ⟨m, rfl, rfl, hm, hi9, hlt⟩ := rn_back l (i + 1) q l'' (fun x hx => hb x (by simp [hx])) hq
      have hd' : ((d - 128).toNat + 128 * m) * 128 ^ i = (d - 128).toNat * 128 ^ i + m * 128 ^ (i + 1) := by
        rw [Nat.pow_succ, Nat.add_mul, Nat.mul_comm (128 ^ i) 128, ← Nat.mul_assoc, Nat.mul_comm m 128]
      refine ⟨(d - 128).toNat + 128 * m, hd'.symm, ?_, by omega, by omega, ?_⟩
      · have := hm (by omega)
        rw [numS_big ((d - 128).toNat + 128 * m) (by omega), show ((d - 128).toNat + 128 * m) / 128 = m by omega, List.cons_append]
        congr 1
        omega
      · rw [hd']
        have h1 : (d - 128).toNat * 128 ^ i < 128 ^ (i + 1) := by
          rw [Nat.pow_succ, Nat.mul_comm (128 ^ i) 128]
          exact Nat.mul_lt_mul_of_pos_right (by omega) (Nat.pow_pos (by decide))
        have h2 : 18446744073709551616 = 128 ^ (i + 1) * (2 * 128 ^ (8 - i)) := by
          rw [Nat.mul_left_comm, ← Nat.pow_add, show i + 1 + (8 - i) = 9 by omega]
        rw [h2] at hlt ⊢
        rw [Nat.mul_comm m] at hlt ⊢
        have h3 := Nat.lt_of_mul_lt_mul_left hlt
        have h4 : 128 ^ (i + 1) * (m + 1) ≤ 128 ^ (i + 1) * (2 * 128 ^ (8 - i)) := Nat.mul_le_mul_left _ h3
        rw [Nat.mul_add] at h4
        omega

/-- The number that was folded. -/
def unfoldS (n : Nat) : Int := if n % 2 = 1 then -((n / 2 : Nat) : Int) - 1 else ((n / 2 : Nat) : Int)
theorem unfold_fold (n : Int) : unfoldS (foldS n) = n := by
  unfold unfoldS foldS
  split <;> split <;> omega
theorem fold_unfold (n : Nat) : foldS (unfoldS n) = n := by
  unfold unfoldS foldS
  split <;> split <;> omega
theorem unfold_i64 (n : Nat) (h : n < 18446744073709551616) : I64 (unfoldS n) := by
  unfold unfoldS I64
  split <;> omega

/-- So many registers read. -/
def rregS : Nat → List Int → Option (List Int × List Int)
  | 0, l => some ([], l)
  | 1, [] => none
  | 1, x :: l => if 15 < x then none else some ([x], l)
  | _ + 2, [] => none
  | k + 2, x :: l => match rregS k l with
    | none => none
    | some (rs, l') => some (x / 16 :: x % 16 :: rs, l')
theorem rreg_pack : ∀ (rs l : List Int), (∀ x ∈ rs, 0 ≤ x ∧ x < 16) → rregS rs.length (packS rs ++ l) = some (rs, l)
  | [], l, _ => rfl
  | [x], l, h => by
    have := h x (by simp)
    show (if 15 < x then none else some ([x], l)) = _
    rw [if_neg (by omega)]
  | x :: y :: rs, l, h => by
    have hx := h x (by simp)
    have hy := h y (by simp)
    show (match rregS rs.length (packS rs ++ l) with | none => none | some (rs', l') => some ((16 * x + y) / 16 :: (16 * x + y) % 16 :: rs', l')) = _
    rw [rreg_pack rs l fun z hz => h z (by simp [hz])]
    simp only [Option.some.injEq, Prod.mk.injEq, and_true, List.cons.injEq]
    omega
theorem rreg_back : ∀ (k : Nat) (l rs l' : List Int), BytesOk l → rregS k l = some (rs, l') → l = packS rs ++ l' ∧ rs.length = k ∧ ∀ x ∈ rs, 0 ≤ x ∧ x < 16
  | 0, l, rs, l', _, h => by
    simp only [rregS, Option.some.injEq, Prod.mk.injEq] at h
    obtain ⟨rfl, rfl⟩ := h
    exact ⟨rfl, rfl, fun x hx => by cases hx⟩
  | 1, [], rs, l', _, h => by cases h
  | 1, x :: l, rs, l', hb, h => by
    have hx := hb x (by simp)
    simp only [rregS] at h
    split at h
    · cases h
    simp only [Option.some.injEq, Prod.mk.injEq] at h
    obtain ⟨rfl, rfl⟩ := h
    exact ⟨rfl, rfl, fun y hy => by rw [List.mem_singleton.1 hy]; omega⟩
  | k + 2, [], rs, l', _, h => by cases h
  | k + 2, x :: l, rs, l', hb, h => by
    have hx := hb x (by simp)
    simp only [rregS] at h
    split at h
    · cases h
    rename_i rs2 l2 hq
    simp only [Option.some.injEq, Prod.mk.injEq] at h
    obtain ⟨rfl, rfl⟩ := h
    obtain ⟨e, hl, hr⟩ := rreg_back k l rs2 l2 (fun y hy => hb y (by simp [hy])) hq
    refine ⟨?_, by simp [hl], fun y hy => ?_⟩
    · rw [e]
      show _ = (16 * (x / 16) + x % 16) :: (packS rs2 ++ l2)
      congr 1
      omega
    · simp only [List.mem_cons] at hy
      rcases hy with rfl | rfl | hy
      · omega
      · omega
      · exact hr y hy
/-- How many registers an Op speaks of. -/
def manyS (op : Int) : Nat := (if shD op then 1 else 0) + (if shA op then 1 else 0) + (if shB op then 1 else 0)
theorem many_len (m : Mac) : (regsS m).length = manyS m.op := by unfold regsS manyS; split <;> split <;> split <;> simp
/-- The instruction of an Op, its registers and its number. -/
def putRegs (op : Int) (rs : List Int) (n : Int) : Mac :=
  let r1 := if shD op then rs.tail else rs
  let r2 := if shA op then r1.tail else r1
  ⟨op, if shD op then rs.headD 0 else 0, if shA op then r1.headD 0 else 0, if shB op then r2.headD 0 else 0, n⟩
theorem regs_put (op : Int) (rs : List Int) (n : Int) (h : rs.length = manyS op) : regsS (putRegs op rs n) = rs := by
  unfold manyS at h
  unfold regsS putRegs
  cases hd : shD op <;> cases ha : shA op <;> cases hb : shB op <;> simp only [hd, ha, hb] at h ⊢
  all_goals
    match rs, h with
    | [], h => first | rfl | (simp at h)
    | [x], h => first | rfl | (simp at h)
    | [x, y], h => first | rfl | (simp at h)
    | [x, y, z], h => first | rfl | (simp at h)
    | _ :: _ :: _ :: _ :: _, h => exact absurd h (by simp; try omega)
/-- What is not spoken of is 0. -/
def ZeroOk (m : Mac) : Prop := (shD m.op = false → m.dst = 0) ∧ (shA m.op = false → m.a = 0) ∧ (shB m.op = false → m.b = 0) ∧ (shK m.op = 0 → m.n = 0)
theorem put_regs (m : Mac) (h : ZeroOk m) : putRegs m.op (regsS m) m.n = m := by
  obtain ⟨op, dst, a, b, n⟩ := m
  obtain ⟨h1, h2, h3, _⟩ := h
  unfold regsS putRegs
  simp only at h1 h2 h3 ⊢
  cases hd : shD op <;> cases ha : shA op <;> cases hb : shB op <;> simp_all
/-- An instruction read. -/
def readS : List Int → Option (Mac × List Int)
  | [] => none
  | op :: l => if isOp op then match rregS (manyS op) l with
      | none => none
      | some (rs, l') => if shK op = 0 then some (putRegs op rs 0, l') else match rnS 0 l' with
        | none => none
        | some (n, l'') => some (putRegs op rs (unfoldS n), l'')
    else none
theorem read_code (m : Mac) (l : List Int) (ho : isOp m.op = true) (hr : RegsOk m) (hz : ZeroOk m) (hn : I64 m.n) : readS (codeS m ++ l) = some (m, l) := by
  unfold codeS readS
  simp only [List.cons_append, List.append_assoc]
  rw [if_pos ho, ← many_len m, rreg_pack (regsS m) _ (regs_in m hr)]
  simp only
  by_cases hk : shK m.op = 0
  · rw [if_pos hk, if_pos hk]
    have := put_regs m hz
    rw [hz.2.2.2 hk] at this
    rw [this]
    rfl
  · rw [if_neg hk, if_neg hk, rn_num (foldS m.n) 0 l (by have := foldS_lt m.n hn; simpa using this) (by omega)]
    simp only [Nat.pow_zero, Nat.mul_one]
    rw [unfold_fold, put_regs m hz]
theorem read_back (l : List Int) (m : Mac) (l' : List Int) (hb : BytesOk l) (h : readS l = some (m, l')) : l = codeS m ++ l' ∧ isOp m.op = true ∧ RegsOk m ∧ I64 m.n ∧ ZeroOk m := by
  match l, h with
  | op :: l, h =>
    simp only [readS] at h
    split at h
    · rename_i ho
      split at h
      · cases h
      rename_i rs l2 hq
      obtain ⟨e, hl, hr⟩ := rreg_back _ _ _ _ (fun y hy => hb y (by simp [hy])) hq
      have hregs : ∀ n, regsS (putRegs op rs n) = rs := fun n => regs_put op rs n hl
      have rok : ∀ n, RegsOk (putRegs op rs n) := by
        intro n
        have hin : ∀ x ∈ regsS (putRegs op rs n), 0 ≤ x ∧ x < 16 := by rw [hregs]; exact hr
        unfold regsS at hin
        refine ⟨fun h => ?_, fun h => ?_, fun h => ?_⟩
        · have := hin (putRegs op rs n).dst (by simp [h])
          omega
        · have := hin (putRegs op rs n).a (by simp [h])
          omega
        · have := hin (putRegs op rs n).b (by simp [h])
          omega
      have zok : ∀ n, (shK op = 0 → n = 0) → ZeroOk (putRegs op rs n) := fun n hn =>
        ⟨fun h => by show (if shD op then _ else _) = _; rw [show shD op = false from h]; rfl, fun h => by show (if shA op then _ else _) = _; rw [show shA op = false from h]; rfl,
          fun h => by show (if shB op then _ else _) = _; rw [show shB op = false from h]; rfl, hn⟩
      split at h
      · rename_i hk
        simp only [Option.some.injEq, Prod.mk.injEq] at h
        obtain ⟨rfl, rfl⟩ := h
        refine ⟨?_, ho, rok 0, by unfold I64; show _ ≤ (0 : Int) ∧ (0 : Int) ≤ _; omega, zok 0 fun _ => rfl⟩
        unfold codeS
        rw [hregs, if_pos (show shK (putRegs op rs 0).op = 0 from hk), List.append_nil, e]
        rfl
      · rename_i hk
        split at h
        · cases h
        rename_i n l3 hn
        simp only [Option.some.injEq, Prod.mk.injEq] at h
        obtain ⟨rfl, rfl⟩ := h
        have hb2 : BytesOk l2 := fun y hy => hb y (by rw [e]; simp [hy])
        obtain ⟨q, hq1, hq2, _, _, hq3⟩ := rn_back l2 0 n l3 hb2 hn
        simp only [Nat.pow_zero, Nat.mul_one] at hq1 hq3
        subst hq1
        refine ⟨?_, ho, rok _, unfold_i64 _ hq3, zok _ fun h => absurd h hk⟩
        unfold codeS
        rw [hregs, if_neg (show ¬ shK (putRegs op rs (unfoldS n)).op = 0 from hk), show (putRegs op rs (unfoldS n)).n = unfoldS n from rfl, fold_unfold, e, hq2]
        simp [putRegs]
    · cases h
end Go.Proofs.YtdldochhondifaaGreatDoor
namespace Go.Proofs.YtdldochhondifaaGreatDoor
open Go.RowKit

/-- An instruction without fault: what that says. -/
theorem fault_zero (m : Mac) (many : Int) : faultS m many = 0 ↔ isOp m.op = true ∧ RegsOk m ∧ (shD m.op = false → m.dst = 0) ∧ (shA m.op = false → m.a = 0) ∧ (shB m.op = false → m.b = 0) ∧ numberS (shK m.op) m.n many = 0 := by
  constructor
  · intro h
    have ⟨ho, hr⟩ := regs_of_fault m many h
    refine ⟨ho, hr, ?_⟩
    rw [fault_of m many ho] at h
    split at h
    · cases h
    split at h
    · cases h
    rename_i h3 h5
    simp only [not_or] at h3 h5
    refine ⟨fun hd => ?_, fun hd => ?_, fun hd => ?_, ?_⟩
    · have := h5.1
      rw [field_5] at this
      exact Decidable.byContradiction fun hn => this ⟨hd, hn⟩
    · have := h5.2.1
      rw [field_5] at this
      exact Decidable.byContradiction fun hn => this ⟨hd, hn⟩
    · have := h5.2.2.1
      rw [field_5] at this
      exact Decidable.byContradiction fun hn => this ⟨hd, hn⟩
    · rcases number_val (shK m.op) m.n many with h | h | h
      · exact h
      · exact absurd h h3.2.2.2
      · exact absurd h h5.2.2.2
  · rintro ⟨ho, ⟨h1, h2, h3⟩, z1, z2, z3, hn⟩
    rw [fault_of m many ho]
    simp only [field_3, field_5]
    rw [if_neg, if_neg]
    · rintro (⟨h, h'⟩ | ⟨h, h'⟩ | ⟨h, h'⟩ | h)
      · exact h' (z1 h)
      · exact h' (z2 h)
      · exact h' (z3 h)
      · rw [hn] at h; cases h
    · rintro (⟨h, h'⟩ | ⟨h, h'⟩ | ⟨h, h'⟩ | h)
      · have := h1 h; omega
      · have := h2 h; omega
      · have := h3 h; omega
      · rw [hn] at h; cases h
theorem zero_of_fault {m : Mac} {many : Int} (h : faultS m many = 0) : ZeroOk m := by
  obtain ⟨_, _, z1, z2, z3, hn⟩ := (fault_zero m many).1 h
  refine ⟨z1, z2, z3, fun hk => ?_⟩
  rw [hk] at hn
  unfold numberS at hn
  simp only [show ¬ (0 : Int) = 1 by omega, if_false, if_true] at hn
  split at hn
  · assumption
  · cases hn
theorem code_ok_iff (ms : List Mac) : (checkS ms).1 = 0 ↔ ms.length ≤ 5000 ∧ (∀ (j : Nat) (m : Mac), ms[j]? = some m → faultS m (ms.length : Int) = 0) ∧ ∃ m, ms[ms.length - 1]? = some m ∧ (m.op = 37 ∨ m.op = 45) := by
  constructor
  · intro h
    by_cases hl : 5000 < ms.length
    · rw [checkS_many ms hl] at h; cases h
    by_cases hall : ∀ (j : Nat) (m : Mac), ms[j]? = some m → faultS m (ms.length : Int) = 0
    · refine ⟨by omega, hall, ?_⟩
      by_cases h0 : ms.length = 0
      · rw [List.eq_nil_of_length_eq_zero h0] at h; cases h
      · obtain ⟨m, hm⟩ : ∃ m, ms[ms.length - 1]? = some m := ⟨ms[ms.length - 1]'(by omega), List.getElem?_eq_getElem _⟩
        refine ⟨m, hm, ?_⟩
        rw [checkS_end ms m (by omega) hall hm] at h
        split at h
        · assumption
        · cases h
    · exfalso
      obtain ⟨k, m, hk, hf, hb⟩ : ∃ (k : Nat) (m : Mac), ms[k]? = some m ∧ faultS m (ms.length : Int) ≠ 0 ∧ ∀ (j : Nat) (m' : Mac), j < k → ms[j]? = some m' → faultS m' (ms.length : Int) = 0 := by
        cases hi : ms.findIdx? (fun m => faultS m (ms.length : Int) != 0) with
        | none =>
          exfalso
          apply hall
          intro j m hm
          rw [List.findIdx?_eq_none_iff] at hi
          simpa using hi m (List.mem_of_getElem? hm)
        | some k =>
          rw [List.findIdx?_eq_some_iff_getElem] at hi
          obtain ⟨hlt, h1, h2⟩ := hi
          refine ⟨k, ms[k], List.getElem?_eq_getElem hlt, by simpa using h1, fun j m' hj hm' => ?_⟩
          have := h2 j hj
          rw [List.getElem?_eq_getElem (by omega)] at hm'
          cases hm'
          simpa using this
      rw [checkS_bad ms k m (by omega) hk hf hb] at h
      exact hf h
  · rintro ⟨hl, hall, m, hm, ho⟩
    rw [checkS_end ms m hl hall hm, if_pos ho]
theorem check_zero {ms : List Mac} (h : (checkS ms).1 = 0) : checkS ms = (0, 0) := by
  obtain ⟨hl, hall, m, hm, ho⟩ := (code_ok_iff ms).1 h
  rw [checkS_end ms m hl hall hm, if_pos ho]

end Go.Proofs.YtdldochhondifaaGreatDoor
namespace Go.Proofs.YtdldochhondifaaGreatDoor
open Go.RowKit

/-- The shapes that there are. -/
theorem shapes (op : Int) (h : isOp op = true) : ∃ d a b : Bool, ∃ n t w r : Bool, hasS (fldS op) 100 = d ∧ hasS (fldS op) 97 = a ∧ hasS (fldS op) 98 = b ∧ hasS (fldS op) 110 = n ∧ hasS (fldS op) 116 = t ∧ hasS (fldS op) 119 = w ∧ hasS (fldS op) 114 = r ∧
    (d, a, b, n, t, w, r) ∈ [(true, true, true, false, false, false, false), (true, true, false, true, false, false, false), (false, true, true, false, true, false, false), (true, false, false, true, false, false, false), (true, true, false, false, false, false, false),
      (false, true, true, true, false, false, false), (true, false, false, false, false, true, false), (false, true, false, false, false, true, false), (false, false, false, false, true, false, false), (false, true, false, false, true, false, false),
      (false, false, false, false, false, false, true), (false, false, false, false, false, false, false), (true, false, false, false, false, false, false), (false, true, false, false, false, false, false)] := by
  rw [isOp_iff] at h
  refine ⟨_, _, _, _, _, _, _, rfl, rfl, rfl, rfl, rfl, rfl, rfl, ?_⟩
  have key : ∀ k : Fin 48, 1 ≤ k.val → (hasS (fldS (k.val : Int)) 100, hasS (fldS (k.val : Int)) 97, hasS (fldS (k.val : Int)) 98, hasS (fldS (k.val : Int)) 110, hasS (fldS (k.val : Int)) 116, hasS (fldS (k.val : Int)) 119, hasS (fldS (k.val : Int)) 114) ∈
      [(true, true, true, false, false, false, false), (true, true, false, true, false, false, false), (false, true, true, false, true, false, false), (true, false, false, true, false, false, false), (true, true, false, false, false, false, false),
      (false, true, true, true, false, false, false), (true, false, false, false, false, true, false), (false, true, false, false, false, true, false), (false, false, false, false, true, false, false), (false, true, false, false, true, false, false),
      (false, false, false, false, false, false, true), (false, false, false, false, false, false, false), (true, false, false, false, false, false, false), (false, true, false, false, false, false, false)] := by decide +kernel
  have := key ⟨op.toNat, by omega⟩ (by simp; omega)
  simp only [show ((op.toNat : Nat) : Int) = op from by omega] at this
  exact this
end Go.Proofs.YtdldochhondifaaGreatDoor
namespace Go.Proofs.YtdldochhondifaaGreatDoor
open Go.RowKit

end Go.Proofs.YtdldochhondifaaGreatDoor
namespace Go.Proofs.YtdldochhondifaaGreatDoor
open Go.RowKit
attribute [local go_sem ↓] Go.wp_at_zero Go.wp_at_succ

end Go.Proofs.YtdldochhondifaaGreatDoor
