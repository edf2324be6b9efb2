/-
  Several texts in one (ByA ByB): what each proves stands at its theorems.
  Conditions: as the theorems say.
-/
import Derived.Test.YtkiaffaieniebaaDoorMacM
namespace Go.Proofs.YtkiaffaieniebaaDoor
open Go.RowKit

/-- The folded number. -/
def foldS (n : Int) : Nat := if n < 0 then 2 * (-(n + 1)).toNat + 1 else 2 * n.toNat
theorem foldS_lt (n : Int) (h : I64 n) : foldS n < 18446744073709551616 := by
  unfold I64 at h
  unfold foldS
  split <;> omega
theorem xor_ones (a : Nat) (h : a < 18446744073709551616) : a ^^^ 18446744073709551615 = 18446744073709551615 - a := by
  apply Nat.eq_of_testBit_eq
  intro i
  rw [Nat.testBit_xor, show (18446744073709551615 : Nat) - a = 2 ^ 64 - (a + 1) by omega, Nat.testBit_two_pow_sub_succ (by omega), show (18446744073709551615 : Nat) = 2 ^ 64 - 1 by decide, Nat.testBit_two_pow_sub_one]
  by_cases hi : i < 64
  · simp [hi]
  · have : a.testBit i = false := Nat.testBit_lt_two_pow (Nat.lt_of_lt_of_le (show a < 2 ^ 64 by omega) (Nat.pow_le_pow_right (by decide) (by omega)))
    simp [hi, this]
theorem fold_bits (n : Int) (h : I64 n) : bits .xor .u64 (IntKind.u64.wrap (IntKind.u64.wrap n * 2)) (IntKind.u64.wrap (n / 9223372036854775808)) = (foldS n : Int) := by
  unfold I64 at h
  simp only [IntKind.wrap_u64]
  unfold foldS
  by_cases hn : n < 0
  · rw [if_pos hn]
    have h1 : n / 9223372036854775808 % 18446744073709551616 = ((18446744073709551615 : Nat) : Int) := by omega
    have h2 : n % 18446744073709551616 * 2 % 18446744073709551616 = (((n % 18446744073709551616 * 2 % 18446744073709551616).toNat : Nat) : Int) := by omega
    rw [h1, h2, bits_xor_u64_nat _ _ (by omega) (by omega), xor_ones _ (by omega)]
    omega
  · rw [if_neg hn]
    have h1 : n / 9223372036854775808 % 18446744073709551616 = ((0 : Nat) : Int) := by omega
    have h2 : n % 18446744073709551616 * 2 % 18446744073709551616 = ((2 * n.toNat : Nat) : Int) := by omega
    rw [h1, h2, bits_xor_u64_nat _ _ (by omega) (by omega)]
    simp
set_option maxHeartbeats 1000000 in
theorem Fold_any (n : Int) (w : World) (h : I64 n) : Calls Tryd.prog 97 #[.int .i64 n] w fun e w' => e = .returned (.int .u64 (foldS n)) ∧ w' = w := by
  have H := Lib.hid (fold_bits n h)
  clear h
  go_enter Tryd.func97, Tryd.ntmps97
  go_wp2
  go_ret
  exact ⟨ret_int H.out, rfl⟩
set_option maxHeartbeats 1000000 in
theorem Folded_any (n : Int) (w : World) (h : I64 n) : Calls Tryd.prog 59 #[.int .i64 n] w fun e w' => e = .returned (.int .u64 (foldS n)) ∧ w' = w := by
  have H := Lib.hid h
  clear h
  by_cases hn : n < 0
  · go_enter Tryd.func59, Tryd.ntmps59
    go_wp2
    go_ret
    refine ⟨ret_int ?_, rfl⟩
    have := H.out
    unfold I64 at this
    unfold foldS
    rw [if_pos hn]
    simp only [IntKind.wrap_u64, wrap64]
    omega
  · go_enter Tryd.func59, Tryd.ntmps59
    go_wp2
    go_ret
    refine ⟨ret_int ?_, rfl⟩
    have := H.out
    unfold I64 at this
    unfold foldS
    rw [if_neg (by omega)]
    simp only [IntKind.wrap_u64]
    omega
end Go.Proofs.YtkiaffaieniebaaDoor
namespace Go.Proofs.YtkiaffaieniebaaDoor
open Go.RowKit

theorem infoByte : (Tryd.prog.info? 5).map (fun i => (i.zero, i.size, i.bytes)) = some (some (.int .u8 0), 1, 1) := by kernel_rfl
/-- The call owns the slice v, which reads as the bytes xs. -/
def OwnB (w : World) (base : Nat) (v : Value) (xs : List Int) : Prop := w.ownsRow base 5 1 v xs.length (xs.map (Value.int .u8))
theorem OwnB.nil (w : World) (base : Nat) : OwnB w base (.slice none 0 0) [] := World.ownsRow_nil w base 5 1
theorem OwnB.below {w w' : World} {base B : Nat} {v : Value} {xs : List Int} (h : OwnB w base v xs) (hb : Below B w w') (hB : B = w.heap.size) : OwnB w' base v xs := by
  refine World.ownsRow.kept (row := none) h ⟨hb.os, hb.tape, hb.output, hb.size, fun k hk _ => hb.block k (by omega)⟩ ?_
  cases v.ownBlock <;> simp
theorem OwnB.more {w : World} {base base' : Nat} {v : Value} {xs : List Int} (h : OwnB w base v xs) (hb : base' ≤ base) : OwnB w base' v xs := by
  obtain ⟨h1, h2⟩ := h
  refine ⟨h1, ?_⟩
  rcases h2 with h2 | ⟨g, cap, cur, e, hg, h3⟩
  · exact .inl h2
  · exact .inr ⟨g, cap, cur, e, by omega, h3⟩
theorem OwnB.one (w : World) (base : Nat) (x : Int) (hb : base ≤ w.heap.size) : OwnB (w.alloc (.cells #[.int .u8 x] 5)) base (.slice (some ⟨w.heap.size, 0, none⟩) 1 1) [x] :=
  ⟨rfl, .inr ⟨w.heap.size, 1, #[.int .u8 x], rfl, hb, heap_alloc_new w _, Nat.le_refl _, by unfold maxLen; omega, rfl, rfl⟩⟩

/-- A number's bytes. -/
def numS (n : Nat) : List Int := if n < 128 then [(n : Int)] else ((n % 128 + 128 : Nat) : Int) :: numS (n / 128)
termination_by n
decreasing_by omega
theorem numS_small (n : Nat) (h : n < 128) : numS n = [(n : Int)] := by rw [numS, if_pos h]
theorem numS_big (n : Nat) (h : ¬ n < 128) : numS n = ((n % 128 + 128 : Nat) : Int) :: numS (n / 128) := by rw [numS, if_neg h]
theorem numS_len (k : Nat) : ∀ n, n < 128 ^ (k + 1) → (numS n).length ≤ k + 1 := by
  induction k with
  | zero => intro n h; rw [numS_small n (by simpa using h)]; simp
  | succ k ih =>
    intro n h
    by_cases hn : n < 128
    · rw [numS_small n hn]; simp
    · rw [numS_big n hn, List.length_cons]
      have := ih (n / 128) (by rw [Nat.div_lt_iff_lt_mul (by decide)]; rw [Nat.pow_succ] at h; exact h)
      omega
theorem numS_len64 (n : Nat) (h : n < 18446744073709551616) : (numS n).length ≤ 10 := numS_len 9 n (Nat.lt_of_lt_of_le h (by decide))
theorem numS_pos (n : Nat) : 0 < (numS n).length := by rw [numS]; split <;> simp
theorem own_some {w : World} {base : Nat} {v : Value} {xs : List Int} (h : OwnB w base v xs) (hx : 0 < xs.length) : ∃ g cap, v = .slice (some ⟨g, 0, none⟩) xs.length cap ∧ base ≤ g := by
  rcases h.2 with ⟨_, h0⟩ | ⟨g, cap, cur, e, hg, _⟩
  · omega
  · exact ⟨g, cap, e, hg⟩

theorem byte_or (m : Nat) : bits BinOp.or IntKind.u8 ((m : Int) % 256) 128 = ((m % 128 + 128 : Nat) : Int) := by
  have h1 : (m : Int) % 256 = ((m % 256 : Nat) : Int) := by omega
  rw [h1, show (128 : Int) = ((128 : Nat) : Int) from rfl, u8_or_nat _ _ (by omega) (by decide)]
  have h2 : ∀ x : Nat, x < 256 → x ||| 128 = x % 128 + 128 := by decide +kernel
  rw [h2 _ (by omega)]
  omega

set_option maxRecDepth 100000 in
set_option maxHeartbeats 1000000 in
theorem Number_any (v : Value) (xs : List Int) (n : Nat) (base : Nat) (w : World) (hn : n < 18446744073709551616) (ho : OwnB w base v xs) (hb : base ≤ w.heap.size) (hl : xs.length ≤ 1000000000) :
    Calls Tryd.prog 96 #[v, .int .u64 n] w fun e w' => ∃ v', e = .returned v' ∧ OwnB w' base v' (xs ++ numS n) ∧ Below base w w' := by
  obtain ⟨i0, hi, hz0, hz1, hz2⟩ := info_parts infoByte
  have HO := Lib.hid ho
  have HN := Lib.hid hn
  have H10 := numS_len64 n hn
  clear ho hn
  go_enter Tryd.func96, Tryd.ntmps96
  go_wp2
  go_loopw [0, 1] (fun v i wr => ∃ (m : Nat) (pre : List Int), i = .int .u64 m ∧ Hid (m < 18446744073709551616) ∧ Hid (numS n = pre ++ numS m) ∧ Hid (Below base w wr) ∧ Hid (OwnB wr base v (xs ++ pre))) (fun _ i _ => (intOf i).toNat)
  case atStart => exact ⟨n, [], rfl, HN, Lib.hid rfl, Lib.hid (Below.refl _ _), Lib.hid (by rw [List.append_nil]; exact HO.out)⟩
  case round =>
    obtain ⟨m, pre, rfl, HM, HP, HB, HW⟩ := hrel
    have hlen : (xs ++ pre).length + (numS m).length ≤ 1000000010 := by have := congrArg List.length HP.out; simp at this ⊢; omega
    have hpos := numS_pos m
    have hbw : base ≤ wr.heap.size := by have := HB.out.size; omega
    by_cases hm : 128 ≤ m
    · have hm' : (128 : Int) ≤ (m : Int) := by omega
      have hb8 : bits BinOp.or IntKind.u8 ((m : Int) % 256) 128 = (m : Int) % 128 + 128 := (byte_or m).trans (by omega)
      go_wp2_with (at_builtin; refine wpList_append_own _ rfl _ _ 53 rfl base 5 i0 (.int .u8 0) 1 1 Tryd.underlying53 hi hz0 hz1 hz2 rfl (by decide) _ _ _ rfl (HW.out.alloc _) ⟨wr.heap.size, 0, none⟩ 1 1 [.int .u8 ((m : Int) % 128 + 128)] rfl rfl (cell_one_new _ _ _) (fun x hx => by simp at hx; subst hx; rfl) (by unfold maxLen; omega) (by omega) (by simp; omega) ?_; intro v' w3 hown' hgrow3 hnil3; have HO' := Lib.hid hown'; have HG' := Lib.hid hgrow3; clear hown' hgrow3 hnil3)
      go_roundw
      case rel =>
        refine ⟨m / 128, pre ++ [((m % 128 + 128 : Nat) : Int)], by simp, Lib.hid (by have := HM.out; omega), Lib.hid (by rw [HP.out, numS_big m (by omega), List.append_assoc]; rfl), Lib.hid ((HB.out.alloc hbw _).grown HG'.out (by simp; omega) (own_block_ge HW.out)), Lib.hid ?_⟩
        rw [← List.append_assoc]
        unfold OwnB
        rw [List.length_append, List.map_append, List.map_cons, List.map_nil, show ((m % 128 + 128 : Nat) : Int) = (m : Int) % 128 + 128 by omega]
        exact HO'.out
      case measure => simp [intOf]; omega
    · have hm' : ¬ (128 : Int) ≤ (m : Int) := by omega
      have hms : (m : Int) % 256 = (m : Int) := by omega
      go_wp2_with (at_builtin; refine wpList_append_own _ rfl _ _ 53 rfl base 5 i0 (.int .u8 0) 1 1 Tryd.underlying53 hi hz0 hz1 hz2 rfl (by decide) _ _ _ rfl (HW.out.alloc _) ⟨wr.heap.size, 0, none⟩ 1 1 [.int .u8 (m : Int)] rfl rfl (cell_one_new _ _ _) (fun x hx => by simp at hx; subst hx; rfl) (by unfold maxLen; omega) (by omega) (by simp; omega) ?_; intro v' w3 hown' hgrow3 hnil3; have HO' := Lib.hid hown'; have HG' := Lib.hid hgrow3; clear hown' hgrow3 hnil3)
      go_ret
      refine ⟨_, rfl, ?_, (HB.out.alloc hbw _).grown HG'.out (by simp; omega) (own_block_ge HW.out)⟩
      rw [HP.out, numS_small m (by omega), ← List.append_assoc]
      unfold OwnB
      rw [List.length_append, List.map_append]
      exact HO'.out

set_option maxRecDepth 100000 in
set_option maxHeartbeats 1000000 in
theorem RNumber_any (n : Nat) : ∀ (w : World), n < 18446744073709551616 → (numS n).length ≤ 10 →
    Calls Tryd.prog 58 #[.int .u64 n] w fun e w' => ∃ v, e = .returned v ∧ OwnB w' w.heap.size v (numS n) ∧ Below w.heap.size w w' := by
  induction n using Nat.strongRecOn with
  | _ n ih =>
    intro w hn h10
    obtain ⟨i0, hi, hz0, hz1, hz2⟩ := info_parts infoByte
    by_cases hs : n < 128
    · have hs' : (n : Int) < 128 := by omega
      have hms : (n : Int) % 256 = (n : Int) := by omega
      have HE := Lib.hid (numS_small n hs)
      clear ih
      go_enter Tryd.func58, Tryd.ntmps58
      go_wp2
      go_ret
      refine ⟨_, rfl, ?_, (Below.refl _ _).alloc (Nat.le_refl _) _⟩
      rw [HE.out]
      exact OwnB.one _ _ _ (Nat.le_refl _)
    · have hs' : ¬ (n : Int) < 128 := by omega
      have HE := Lib.hid (numS_big n hs)
      have hl : (numS (n / 128)).length ≤ 9 := by rw [numS_big n hs, List.length_cons] at h10; omega
      have hcall : ∀ w1 : World, Calls Tryd.prog 58 #[.int .u64 ((n : Int) / 128)] w1 fun e w' => ∃ v, e = .returned v ∧ OwnB w' w1.heap.size v (numS (n / 128)) ∧ Below w1.heap.size w1 w' := by
        intro w1
        have := ih (n / 128) (by omega) w1 (by omega) (by omega)
        rwa [show ((n / 128 : Nat) : Int) = (n : Int) / 128 by omega] at this
      have HC := Lib.hid hcall
      have hpos := numS_pos (n / 128)
      clear ih hcall h10
      go_enter Tryd.func58, Tryd.ntmps58
      go_wp2_with fail
      refine (HC.out _).mono ?_
      rintro e w1 ⟨v, rfl, ho, hb1⟩
      obtain ⟨g, cap, rfl, hg⟩ := own_some ho hpos
      have HO1 : Hid (OwnB w1 w.heap.size (.slice (some ⟨w.heap.size, 0, none⟩) 1 1) [(n : Int) % 128 + 128]) := Lib.hid ((OwnB.one w w.heap.size ((n : Int) % 128 + 128) (Nat.le_refl _)).below hb1 rfl)
      have HN : Hid (∀ j u, ((numS (n / 128)).map (Value.int .u8))[j]? = some u → w1.cell? ((⟨g, 0, none⟩ : Addr).add j) = some u) := Lib.hid (World.ownsRow.cells ho rfl)
      have HB1 : Hid (Below w.heap.size w w1) := Lib.hid (((Below.refl _ _).alloc (Nat.le_refl _) _).trans (hb1.mono (by simp)))
      have hz : w.heap.size ≤ w1.heap.size := HB1.out.size
      clear ho hb1
      go_wp2_with (at_builtin; refine wpList_append_own _ rfl _ _ 53 rfl w.heap.size 5 i0 (.int .u8 0) 1 1 Tryd.underlying53 hi hz0 hz1 hz2 rfl (by decide) _ 1 _ rfl HO1.out ⟨g, 0, none⟩ (numS (n / 128)).length _ ((numS (n / 128)).map (Value.int .u8)) rfl (by simp) HN.out (fun x hx => by obtain ⟨y, _, rfl⟩ := List.mem_map.1 hx; rfl) (by unfold maxLen; omega) (by omega) hz ?_; intro v' w3 hown' hgrow3 hnil3; have HO' := Lib.hid hown'; have HG' := Lib.hid hgrow3; clear hown' hgrow3 hnil3)
      go_ret
      refine ⟨_, rfl, ?_, HB1.out.grown HG'.out hz (fun k hk => by cases hk; exact Nat.le_refl _)⟩
      rw [HE.out]
      unfold OwnB
      rw [List.length_cons, List.map_cons, show ((n % 128 + 128 : Nat) : Int) = (n : Int) % 128 + 128 by omega, Nat.add_comm]
      exact HO'.out
end Go.Proofs.YtkiaffaieniebaaDoor
