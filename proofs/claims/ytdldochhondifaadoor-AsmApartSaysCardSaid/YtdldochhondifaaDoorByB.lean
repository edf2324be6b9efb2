/-
  Several texts in one (ByA ByB): what each proves stands at its theorems.
  Conditions: as the theorems say.
-/
import Derived.Test.YtdldochhondifaaDoorMacM
namespace Go.Proofs.YtdldochhondifaaDoor
open Go.RowKit

/-- The folded number. -/
def foldS (n : Int) : Nat := if n < 0 then 2 * (-(n + 1)).toNat + 1 else 2 * n.toNat
theorem foldS_lt (n : Int) (h : I64 n) : foldS n < 18446744073709551616 := by
  unfold I64 at h
  unfold foldS
  split <;> omega
theorem xor_ones (a : Nat) (h : a < 18446744073709551616) : a ^^^ 18446744073709551615 = 18446744073709551615 - a := by
  apply Nat.eq_of_testBit_eq
  intro i
  rw [Nat.testBit_xor, show (18446744073709551615 : Nat) - a = 2 ^ 64 - (a + 1) by omega, Nat.testBit_two_pow_sub_succ (by omega), show (18446744073709551615 : Nat) = 2 ^ 64 - 1 by decide, Nat.testBit_two_pow_sub_one]
  by_cases hi : i < 64
  · simp [hi]
  · have : a.testBit i = false := Nat.testBit_lt_two_pow (Nat.lt_of_lt_of_le (show a < 2 ^ 64 by omega) (Nat.pow_le_pow_right (by decide) (by omega)))
    simp [hi, this]
theorem fold_bits (n : Int) (h : I64 n) : bits .xor .u64 (IntKind.u64.wrap (IntKind.u64.wrap n * 2)) (IntKind.u64.wrap (n / 9223372036854775808)) = (foldS n : Int) := by
  unfold I64 at h
  simp only [IntKind.wrap_u64]
  unfold foldS
  by_cases hn : n < 0
  · rw [if_pos hn]
    have h1 : n / 9223372036854775808 % 18446744073709551616 = ((18446744073709551615 : Nat) : Int) := by omega
    have h2 : n % 18446744073709551616 * 2 % 18446744073709551616 = (((n % 18446744073709551616 * 2 % 18446744073709551616).toNat : Nat) : Int) := by omega
    rw [h1, h2, bits_xor_u64_nat _ _ (by omega) (by omega), xor_ones _ (by omega)]
    omega
  · rw [if_neg hn]
    have h1 : n / 9223372036854775808 % 18446744073709551616 = ((0 : Nat) : Int) := by omega
    have h2 : n % 18446744073709551616 * 2 % 18446744073709551616 = ((2 * n.toNat : Nat) : Int) := by omega
    rw [h1, h2, bits_xor_u64_nat _ _ (by omega) (by omega)]
    simp
end Go.Proofs.YtdldochhondifaaDoor
namespace Go.Proofs.YtdldochhondifaaDoor
open Go.RowKit

theorem infoByte : (Tryd.prog.info? 5).map (fun i => (i.zero, i.size, i.bytes)) = some (some (.int .u8 0), 1, 1) := by kernel_rfl
/-- The call owns the slice v, which reads as the bytes xs. -/
def OwnB (w : World) (base : Nat) (v : Value) (xs : List Int) : Prop := w.ownsRow base 5 1 v xs.length (xs.map (Value.int .u8))
theorem OwnB.nil (w : World) (base : Nat) : OwnB w base (.slice none 0 0) [] := World.ownsRow_nil w base 5 1
theorem OwnB.below {w w' : World} {base B : Nat} {v : Value} {xs : List Int} (h : OwnB w base v xs) (hb : Below B w w') (hB : B = w.heap.size) : OwnB w' base v xs := by
  refine World.ownsRow.kept (row := none) h ⟨hb.os, hb.tape, hb.output, hb.size, fun k hk _ => hb.block k (by omega)⟩ ?_
  cases v.ownBlock <;> simp
theorem OwnB.more {w : World} {base base' : Nat} {v : Value} {xs : List Int} (h : OwnB w base v xs) (hb : base' ≤ base) : OwnB w base' v xs := by
  obtain ⟨h1, h2⟩ := h
  refine ⟨h1, ?_⟩
  rcases h2 with h2 | ⟨g, cap, cur, e, hg, h3⟩
  · exact .inl h2
  · exact .inr ⟨g, cap, cur, e, by omega, h3⟩
theorem OwnB.one (w : World) (base : Nat) (x : Int) (hb : base ≤ w.heap.size) : OwnB (w.alloc (.cells #[.int .u8 x] 5)) base (.slice (some ⟨w.heap.size, 0, none⟩) 1 1) [x] :=
  ⟨rfl, .inr ⟨w.heap.size, 1, #[.int .u8 x], rfl, hb, heap_alloc_new w _, Nat.le_refl _, by unfold maxLen; omega, rfl, rfl⟩⟩

/-- A number's bytes. -/
def numS (n : Nat) : List Int := if n < 128 then [(n : Int)] else ((n % 128 + 128 : Nat) : Int) :: numS (n / 128)
termination_by n
decreasing_by omega
theorem numS_small (n : Nat) (h : n < 128) : numS n = [(n : Int)] := by rw [numS, if_pos h]
theorem numS_big (n : Nat) (h : ¬ n < 128) : numS n = ((n % 128 + 128 : Nat) : Int) :: numS (n / 128) := by rw [numS, if_neg h]
theorem numS_len (k : Nat) : ∀ n, n < 128 ^ (k + 1) → (numS n).length ≤ k + 1 := by
  induction k with
  | zero => intro n h; rw [numS_small n (by simpa using h)]; simp
  | succ k ih =>
    intro n h
    by_cases hn : n < 128
    · rw [numS_small n hn]; simp
    · rw [numS_big n hn, List.length_cons]
      have := ih (n / 128) (by rw [Nat.div_lt_iff_lt_mul (by decide)]; rw [Nat.pow_succ] at h; exact h)
      omega
theorem numS_len64 (n : Nat) (h : n < 18446744073709551616) : (numS n).length ≤ 10 := numS_len 9 n (Nat.lt_of_lt_of_le h (by decide))
theorem numS_pos (n : Nat) : 0 < (numS n).length := by rw [numS]; split <;> simp
theorem own_some {w : World} {base : Nat} {v : Value} {xs : List Int} (h : OwnB w base v xs) (hx : 0 < xs.length) : ∃ g cap, v = .slice (some ⟨g, 0, none⟩) xs.length cap ∧ base ≤ g := by
  rcases h.2 with ⟨_, h0⟩ | ⟨g, cap, cur, e, hg, _⟩
  · omega
  · exact ⟨g, cap, e, hg⟩

theorem byte_or (m : Nat) : bits BinOp.or IntKind.u8 ((m : Int) % 256) 128 = ((m % 128 + 128 : Nat) : Int) := by
  have h1 : (m : Int) % 256 = ((m % 256 : Nat) : Int) := by omega
  rw [h1, show (128 : Int) = ((128 : Nat) : Int) from rfl, u8_or_nat _ _ (by omega) (by decide)]
  have h2 : ∀ x : Nat, x < 256 → x ||| 128 = x % 128 + 128 := by decide +kernel
  rw [h2 _ (by omega)]
  omega

end Go.Proofs.YtdldochhondifaaDoor
