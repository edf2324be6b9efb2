/-
  Texts of the claim AsmWholeSays (KitD): what each proves stands at its theorems.
  Conditions: as the theorems say.
-/
import Derived.Maps.AppendAt
import Derived.Laws.BytesArg
import Derived.Test.YtdldochhondifaaGreatDoorVMacM
namespace Go.Proofs.YtdldochhondifaaGreatDoor
open Go.RowKit

/-- The folded number. -/
def foldS (n : Int) : Nat := if n < 0 then 2 * (-(n + 1)).toNat + 1 else 2 * n.toNat
theorem foldS_lt (n : Int) (h : I64 n) : foldS n < 18446744073709551616 := by
  unfold I64 at h
  unfold foldS
  split <;> omega
theorem xor_ones (a : Nat) (h : a < 18446744073709551616) : a ^^^ 18446744073709551615 = 18446744073709551615 - a := by
  apply Nat.eq_of_testBit_eq
  intro i
  rw [Nat.testBit_xor, show (18446744073709551615 : Nat) - a = 2 ^ 64 - (a + 1) by omega, Nat.testBit_two_pow_sub_succ (by omega), show (18446744073709551615 : Nat) = 2 ^ 64 - 1 by decide, Nat.testBit_two_pow_sub_one]
  by_cases hi : i < 64
  · simp [hi]
  · have : a.testBit i = false := Nat.testBit_lt_two_pow (Nat.lt_of_lt_of_le (show a < 2 ^ 64 by omega) (Nat.pow_le_pow_right (by decide) (by omega)))
    simp [hi, this]
theorem fold_bits (n : Int) (h : I64 n) : bits .xor .u64 (IntKind.u64.wrap (IntKind.u64.wrap n * 2)) (IntKind.u64.wrap (n / 9223372036854775808)) = (foldS n : Int) := by
  unfold I64 at h
  simp only [IntKind.wrap_u64]
  unfold foldS
  by_cases hn : n < 0
  · rw [if_pos hn]
    have h1 : n / 9223372036854775808 % 18446744073709551616 = ((18446744073709551615 : Nat) : Int) := by omega
    have h2 : n % 18446744073709551616 * 2 % 18446744073709551616 = (((n % 18446744073709551616 * 2 % 18446744073709551616).toNat : Nat) : Int) := by omega
    rw [h1, h2, bits_xor_u64_nat _ _ (by omega) (by omega), xor_ones _ (by omega)]
    omega
  · rw [if_neg hn]
    have h1 : n / 9223372036854775808 % 18446744073709551616 = ((0 : Nat) : Int) := by omega
    have h2 : n % 18446744073709551616 * 2 % 18446744073709551616 = ((2 * n.toNat : Nat) : Int) := by omega
    rw [h1, h2, bits_xor_u64_nat _ _ (by omega) (by omega)]
    simp
set_option maxHeartbeats 1000000 in
theorem Fold_any (n : Int) (w : World) (h : I64 n) : Calls Tryz.prog 161 #[.int .i64 n] w fun e w' => e = .returned (.int .u64 (foldS n)) ∧ w' = w := by
  have H := Lib.hid (fold_bits n h)
  clear h
  go_enter Tryz.func161, Tryz.ntmps161
  go_wp2
  go_ret
  exact ⟨ret_int H.out, rfl⟩
set_option maxHeartbeats 1000000 in
theorem Folded_any (n : Int) (w : World) (h : I64 n) : Calls Tryz.prog 125 #[.int .i64 n] w fun e w' => e = .returned (.int .u64 (foldS n)) ∧ w' = w := by
  have H := Lib.hid h
  clear h
  by_cases hn : n < 0
  · go_enter Tryz.func125, Tryz.ntmps125
    go_wp2
    go_ret
    refine ⟨ret_int ?_, rfl⟩
    have := H.out
    unfold I64 at this
    unfold foldS
    rw [if_pos hn]
    simp only [IntKind.wrap_u64, wrap64]
    omega
  · go_enter Tryz.func125, Tryz.ntmps125
    go_wp2
    go_ret
    refine ⟨ret_int ?_, rfl⟩
    have := H.out
    unfold I64 at this
    unfold foldS
    rw [if_neg (by omega)]
    simp only [IntKind.wrap_u64]
    omega
end Go.Proofs.YtdldochhondifaaGreatDoor
namespace Go.Proofs.YtdldochhondifaaGreatDoor
open Go.RowKit

theorem infoByte : (Tryz.prog.info? 5).map (fun i => (i.zero, i.size, i.bytes)) = some (some (.int .u8 0), 1, 1) := by kernel_rfl
/-- The call owns the slice v, which reads as the bytes xs. -/
def OwnB (w : World) (base : Nat) (v : Value) (xs : List Int) : Prop := w.ownsRow base 5 1 v xs.length (xs.map (Value.int .u8))
theorem OwnB.nil (w : World) (base : Nat) : OwnB w base (.slice none 0 0) [] := World.ownsRow_nil w base 5 1
theorem OwnB.below {w w' : World} {base B : Nat} {v : Value} {xs : List Int} (h : OwnB w base v xs) (hb : Below B w w') (hB : B = w.heap.size) : OwnB w' base v xs := by
  refine World.ownsRow.kept (row := none) h ⟨hb.os, hb.tape, hb.output, hb.size, fun k hk _ => hb.block k (by omega)⟩ ?_
  cases v.ownBlock <;> simp
theorem OwnB.more {w : World} {base base' : Nat} {v : Value} {xs : List Int} (h : OwnB w base v xs) (hb : base' ≤ base) : OwnB w base' v xs := by
  obtain ⟨h1, h2⟩ := h
  refine ⟨h1, ?_⟩
  rcases h2 with h2 | ⟨g, cap, cur, e, hg, h3⟩
  · exact .inl h2
  · exact .inr ⟨g, cap, cur, e, by omega, h3⟩
theorem OwnB.one (w : World) (base : Nat) (x : Int) (hb : base ≤ w.heap.size) : OwnB (w.alloc (.cells #[.int .u8 x] 5)) base (.slice (some ⟨w.heap.size, 0, none⟩) 1 1) [x] :=
  ⟨rfl, .inr ⟨w.heap.size, 1, #[.int .u8 x], rfl, hb, heap_alloc_new w _, Nat.le_refl _, by unfold maxLen; omega, rfl, rfl⟩⟩

/-- A number's bytes. -/
def numS (n : Nat) : List Int := if n < 128 then [(n : Int)] else ((n % 128 + 128 : Nat) : Int) :: numS (n / 128)
termination_by n
decreasing_by omega
theorem numS_small (n : Nat) (h : n < 128) : numS n = [(n : Int)] := by rw [numS, if_pos h]
theorem numS_big (n : Nat) (h : ¬ n < 128) : numS n = ((n % 128 + 128 : Nat) : Int) :: numS (n / 128) := by rw [numS, if_neg h]
theorem numS_len (k : Nat) : ∀ n, n < 128 ^ (k + 1) → (numS n).length ≤ k + 1 := by
  induction k with
  | zero => intro n h; rw [numS_small n (by simpa using h)]; simp
  | succ k ih =>
    intro n h
    by_cases hn : n < 128
    · rw [numS_small n hn]; simp
    · rw [numS_big n hn, List.length_cons]
      have := ih (n / 128) (by rw [Nat.div_lt_iff_lt_mul (by decide)]; rw [Nat.pow_succ] at h; exact h)
      omega
theorem numS_len64 (n : Nat) (h : n < 18446744073709551616) : (numS n).length ≤ 10 := numS_len 9 n (Nat.lt_of_lt_of_le h (by decide))
theorem numS_pos (n : Nat) : 0 < (numS n).length := by rw [numS]; split <;> simp
theorem own_some {w : World} {base : Nat} {v : Value} {xs : List Int} (h : OwnB w base v xs) (hx : 0 < xs.length) : ∃ g cap, v = .slice (some ⟨g, 0, none⟩) xs.length cap ∧ base ≤ g := by
  rcases h.2 with ⟨_, h0⟩ | ⟨g, cap, cur, e, hg, _⟩
  · omega
  · exact ⟨g, cap, e, hg⟩

theorem byte_or (m : Nat) : bits BinOp.or IntKind.u8 ((m : Int) % 256) 128 = ((m % 128 + 128 : Nat) : Int) := by
  have h1 : (m : Int) % 256 = ((m % 256 : Nat) : Int) := by omega
  rw [h1, show (128 : Int) = ((128 : Nat) : Int) from rfl, u8_or_nat _ _ (by omega) (by decide)]
  have h2 : ∀ x : Nat, x < 256 → x ||| 128 = x % 128 + 128 := by decide +kernel
  rw [h2 _ (by omega)]
  omega

set_option maxRecDepth 100000 in
set_option maxHeartbeats 1000000 in
theorem Number_any (v : Value) (xs : List Int) (n : Nat) (base : Nat) (w : World) (hn : n < 18446744073709551616) (ho : OwnB w base v xs) (hb : base ≤ w.heap.size) (hl : xs.length ≤ 1000000000) :
    Calls Tryz.prog 160 #[v, .int .u64 n] w fun e w' => ∃ v', e = .returned v' ∧ OwnB w' base v' (xs ++ numS n) ∧ Below base w w' := by
  obtain ⟨i0, hi, hz0, hz1, hz2⟩ := info_parts infoByte
  have HO := Lib.hid ho
  have HN := Lib.hid hn
  have H10 := numS_len64 n hn
  clear ho hn
  go_enter Tryz.func160, Tryz.ntmps160
  go_wp2
  go_loopw [0, 1] (fun v i wr => ∃ (m : Nat) (pre : List Int), i = .int .u64 m ∧ Hid (m < 18446744073709551616) ∧ Hid (numS n = pre ++ numS m) ∧ Hid (Below base w wr) ∧ Hid (OwnB wr base v (xs ++ pre))) (fun _ i _ => (intOf i).toNat)
  case atStart => exact ⟨n, [], rfl, HN, Lib.hid rfl, Lib.hid (Below.refl _ _), Lib.hid (by rw [List.append_nil]; exact HO.out)⟩
  case round =>
    obtain ⟨m, pre, rfl, HM, HP, HB, HW⟩ := hrel
    have hlen : (xs ++ pre).length + (numS m).length ≤ 1000000010 := by have := congrArg List.length HP.out; simp at this ⊢; omega
    have hpos := numS_pos m
    have hbw : base ≤ wr.heap.size := by have := HB.out.size; omega
    by_cases hm : 128 ≤ m
    · have hm' : (128 : Int) ≤ (m : Int) := by omega
      have hb8 : bits BinOp.or IntKind.u8 ((m : Int) % 256) 128 = (m : Int) % 128 + 128 := (byte_or m).trans (by omega)
      go_wp2_with (at_builtin; refine wpList_append_own _ rfl _ _ 72 rfl base 5 i0 (.int .u8 0) 1 1 Tryz.underlying72 hi hz0 hz1 hz2 rfl (by decide) _ _ _ rfl (HW.out.alloc _) ⟨wr.heap.size, 0, none⟩ 1 1 [.int .u8 ((m : Int) % 128 + 128)] rfl rfl (cell_one_new _ _ _) (fun x hx => by simp at hx; subst hx; rfl) (by unfold maxLen; omega) (by omega) (by simp; omega) ?_; intro v' w3 hown' hgrow3 hnil3; have HO' := Lib.hid hown'; have HG' := Lib.hid hgrow3; clear hown' hgrow3 hnil3)
      go_roundw
      case rel =>
        refine ⟨m / 128, pre ++ [((m % 128 + 128 : Nat) : Int)], by simp, Lib.hid (by have := HM.out; omega), Lib.hid (by rw [HP.out, numS_big m (by omega), List.append_assoc]; rfl), Lib.hid ((HB.out.alloc hbw _).grown HG'.out (by simp; omega) (own_block_ge HW.out)), Lib.hid ?_⟩
        rw [← List.append_assoc]
        unfold OwnB
        rw [List.length_append, List.map_append, List.map_cons, List.map_nil, show ((m % 128 + 128 : Nat) : Int) = (m : Int) % 128 + 128 by omega]
        exact HO'.out
      case measure => simp [intOf]; omega
    · have hm' : ¬ (128 : Int) ≤ (m : Int) := by omega
      have hms : (m : Int) % 256 = (m : Int) := by omega
      go_wp2_with (at_builtin; refine wpList_append_own _ rfl _ _ 72 rfl base 5 i0 (.int .u8 0) 1 1 Tryz.underlying72 hi hz0 hz1 hz2 rfl (by decide) _ _ _ rfl (HW.out.alloc _) ⟨wr.heap.size, 0, none⟩ 1 1 [.int .u8 (m : Int)] rfl rfl (cell_one_new _ _ _) (fun x hx => by simp at hx; subst hx; rfl) (by unfold maxLen; omega) (by omega) (by simp; omega) ?_; intro v' w3 hown' hgrow3 hnil3; have HO' := Lib.hid hown'; have HG' := Lib.hid hgrow3; clear hown' hgrow3 hnil3)
      go_ret
      refine ⟨_, rfl, ?_, (HB.out.alloc hbw _).grown HG'.out (by simp; omega) (own_block_ge HW.out)⟩
      rw [HP.out, numS_small m (by omega), ← List.append_assoc]
      unfold OwnB
      rw [List.length_append, List.map_append]
      exact HO'.out

set_option maxRecDepth 100000 in
set_option maxHeartbeats 1000000 in
theorem RNumber_any (n : Nat) : ∀ (w : World), n < 18446744073709551616 → (numS n).length ≤ 10 →
    Calls Tryz.prog 124 #[.int .u64 n] w fun e w' => ∃ v, e = .returned v ∧ OwnB w' w.heap.size v (numS n) ∧ Below w.heap.size w w' := by
  induction n using Nat.strongRecOn with
  | _ n ih =>
    intro w hn h10
    obtain ⟨i0, hi, hz0, hz1, hz2⟩ := info_parts infoByte
    by_cases hs : n < 128
    · have hs' : (n : Int) < 128 := by omega
      have hms : (n : Int) % 256 = (n : Int) := by omega
      have HE := Lib.hid (numS_small n hs)
      clear ih
      go_enter Tryz.func124, Tryz.ntmps124
      go_wp2
      go_ret
      refine ⟨_, rfl, ?_, (Below.refl _ _).alloc (Nat.le_refl _) _⟩
      rw [HE.out]
      exact OwnB.one _ _ _ (Nat.le_refl _)
    · have hs' : ¬ (n : Int) < 128 := by omega
      have HE := Lib.hid (numS_big n hs)
      have hl : (numS (n / 128)).length ≤ 9 := by rw [numS_big n hs, List.length_cons] at h10; omega
      have hcall : ∀ w1 : World, Calls Tryz.prog 124 #[.int .u64 ((n : Int) / 128)] w1 fun e w' => ∃ v, e = .returned v ∧ OwnB w' w1.heap.size v (numS (n / 128)) ∧ Below w1.heap.size w1 w' := by
        intro w1
        have := ih (n / 128) (by omega) w1 (by omega) (by omega)
        rwa [show ((n / 128 : Nat) : Int) = (n : Int) / 128 by omega] at this
      have HC := Lib.hid hcall
      have hpos := numS_pos (n / 128)
      clear ih hcall h10
      go_enter Tryz.func124, Tryz.ntmps124
      go_wp2_with fail
      refine (HC.out _).mono ?_
      rintro e w1 ⟨v, rfl, ho, hb1⟩
      obtain ⟨g, cap, rfl, hg⟩ := own_some ho hpos
      have HO1 : Hid (OwnB w1 w.heap.size (.slice (some ⟨w.heap.size, 0, none⟩) 1 1) [(n : Int) % 128 + 128]) := Lib.hid ((OwnB.one w w.heap.size ((n : Int) % 128 + 128) (Nat.le_refl _)).below hb1 rfl)
      have HN : Hid (∀ j u, ((numS (n / 128)).map (Value.int .u8))[j]? = some u → w1.cell? ((⟨g, 0, none⟩ : Addr).add j) = some u) := Lib.hid (World.ownsRow.cells ho rfl)
      have HB1 : Hid (Below w.heap.size w w1) := Lib.hid (((Below.refl _ _).alloc (Nat.le_refl _) _).trans (hb1.mono (by simp)))
      have hz : w.heap.size ≤ w1.heap.size := HB1.out.size
      clear ho hb1
      go_wp2_with (at_builtin; refine wpList_append_own _ rfl _ _ 72 rfl w.heap.size 5 i0 (.int .u8 0) 1 1 Tryz.underlying72 hi hz0 hz1 hz2 rfl (by decide) _ 1 _ rfl HO1.out ⟨g, 0, none⟩ (numS (n / 128)).length _ ((numS (n / 128)).map (Value.int .u8)) rfl (by simp) HN.out (fun x hx => by obtain ⟨y, _, rfl⟩ := List.mem_map.1 hx; rfl) (by unfold maxLen; omega) (by omega) hz ?_; intro v' w3 hown' hgrow3 hnil3; have HO' := Lib.hid hown'; have HG' := Lib.hid hgrow3; clear hown' hgrow3 hnil3)
      go_ret
      refine ⟨_, rfl, ?_, HB1.out.grown HG'.out hz (fun k hk => by cases hk; exact Nat.le_refl _)⟩
      rw [HE.out]
      unfold OwnB
      rw [List.length_cons, List.map_cons, show ((n % 128 + 128 : Nat) : Int) = (n : Int) % 128 + 128 by omega, Nat.add_comm]
      exact HO'.out
end Go.Proofs.YtdldochhondifaaGreatDoor
namespace Go.Proofs.YtdldochhondifaaGreatDoor
open Go.RowKit

theorem grown_below {w w' : World} {base : Nat} {row : Option Nat} (hg : w.grownBy w' row) (hb : base ≤ w.heap.size) (hr : ∀ k, row = some k → base ≤ k) : Below base w w' :=
  (Below.refl _ _).grown hg hb hr
theorem grown_of_alloc {w w' : World} {o : Obj} {row : Option Nat} (hg : (w.alloc o).grownBy w' row) : w.grownBy w' row :=
  ⟨hg.os, hg.tape, hg.output, Nat.le_trans (by simp) hg.size, fun i hi hne => (hg.block i (by simp; omega) hne).trans (Below.heap_alloc w o i hi)⟩
/-- What an append leaves: the slice owns the longer list; old memory stands; only the slice's own block was written. -/
def Appended (w : World) (base : Nat) (e : TypeId) (size : Nat) (v : Value) (n : Nat) (xs : List Value) (H : Nat) (v' : Value) (w' : World) : Prop :=
  w'.ownsRow base e size v' n xs ∧ Below base w w' ∧ w.grownBy w' v.ownBlock ∧ (v'.ownBlock = v.ownBlock ∨ v'.ownBlock = some H)

section
variable {P : Program}
theorem run_app_nil (w : World) (base : Nat) (t ty e : TypeId) (i : TypeInfo) (size : Nat) (ht : P.underlying t = some (.slice e)) (hi : P.info? e = some i)
    (v : Value) (n : Nat) (xs : List Value) (hown : w.ownsRow base e size v n xs) (c : Nat) : (Builtin.append_ #[t, t] ty #[v, .slice none 0 c]).run P w = .ok v w := by
  rcases hown.2 with ⟨rfl, rfl⟩ | ⟨g, cap, cur, rfl, _, _, hnc, _⟩
  · simp [Builtin.append_, run_underlying ht, sizeOf, typeInfo, hi, Builtin.lenOf, Builtin.firstCells]
  · simp [Builtin.append_, run_underlying ht, sizeOf, typeInfo, hi, Builtin.lenOf, Builtin.firstCells, hnc, storeCells]
/-- append(v, x...), x whatever slice. -/
theorem app_src {w : World} {ops : Array Oper} {rest : List Oper} {o : Oper} {a : Act} {Q : Exit → Act → World → Prop} (hgd : o.guard = none) (s x : Operand) (t e : TypeId)
    (ho : o.op = .call { callee := .builtin .append, args := #[s, x], argTypes := #[t, t] })
    (z : Value) (size bytes : Nat) (ht : P.underlying t = some (.slice e)) (hinfo : (P.info? e).map (fun i => (i.zero, i.size, i.bytes)) = some (some z, size, bytes)) (hzs : z.cells.size = size) (hsz : 0 < size) (hby : bytes ≤ 10000)
    (base : Nat) (v : Value) (n : Nat) (xs : List Value) (hs : a.eval s = v) (hown : w.ownsRow base e size v n xs)
    (A : Option Addr) (m c : Nat) (news : List Value) (hx : a.eval x = .slice A m c) (hl : news.length = m * size) (hnews : 0 < m → ∃ ad, A = some ad ∧ ∀ j u, news[j]? = some u → w.cell? (ad.add j) = some u) (h1 : ∀ u ∈ news, u.oneCell' = true)
    (hlen : n + m ≤ 4000000000) (hbase : base ≤ w.heap.size) (H : Nat) (hH : w.heap.size = H)
    (h : ∀ v' w', Hid (Appended w base e size v (n + m) (xs ++ news) H v' w') → wpList P ops Q rest (a.put o.dst v') w') : wpList P ops Q (o :: rest) a w := by
  obtain ⟨i, hi, hz, hsize, hbytes⟩ := info_parts hinfo
  subst hH
  have key : ∃ v' w', (Builtin.append_ #[t, t] o.type #[v, .slice A m c]).run P w = .ok v' w' ∧ Appended w base e size v (n + m) (xs ++ news) w.heap.size v' w' := by
    have some_case : ∀ ad : Addr, A = some ad → (∀ j u, news[j]? = some u → w.cell? (ad.add j) = some u) → ∃ v' w', (Builtin.append_ #[t, t] o.type #[v, .slice A m c]).run P w = .ok v' w' ∧ Appended w base e size v (n + m) (xs ++ news) w.heap.size v' w' := by
      intro ad hA hc
      subst hA
      have hmul : (n + m) * bytes ≤ 140737488355328 := Nat.le_trans (Nat.mul_le_mul hlen hby) (by decide)
      obtain ⟨v', w', hrun, h2, h3, _, h5⟩ := run_append_own_at (P := P) w base t o.type e i z size bytes ht hi hz hsize hbytes hzs hsz v n xs hown ad m c news hl hc h1 (by unfold maxLen; omega) hmul hbase
      exact ⟨v', w', hrun, h2, grown_below h3 hbase (own_block_ge hown), h3, h5⟩
    rcases A with _ | ad
    · have hm : m = 0 := by
        rcases Nat.eq_zero_or_pos m with h0 | h0
        · exact h0
        · obtain ⟨ad, h, _⟩ := hnews h0
          cases h
      subst hm
      have hn : news = [] := List.eq_nil_of_length_eq_zero (by simpa using hl)
      subst hn
      exact ⟨v, w, run_app_nil w base t _ e i size ht hi v n xs hown c, by simpa using hown, Below.refl _ _, World.grownBy.refl w _, .inl rfl⟩
    · refine some_case ad rfl ?_
      intro j u hu
      rcases Nat.eq_zero_or_pos m with h0 | h0
      · subst h0
        have hn : news = [] := List.eq_nil_of_length_eq_zero (by simpa using hl)
        subst hn
        simp at hu
      · obtain ⟨ad', h, hc⟩ := hnews h0
        injection h with h
        subst h
        exact hc j u hu
  obtain ⟨v', w', hrun, hap⟩ := key
  refine wpList_plain hgd fun K hK => ?_
  unfold Oper.wp execOp
  simp only [ho, resolve, invoke, builtin, Sem.run_bind, Sem.run_pure, Result.andThen_ok, List.map_toArray, List.map_cons, List.map_nil, hs, hx, hrun]
  exact hK _ _ (h v' w' (Lib.hid hap))
theorem cells_new (w : World) (news : List Value) (t : TypeId) (H : Nat) (hH : w.heap.size = H) : ∀ j u, news[j]? = some u → (w.alloc (.cells news.toArray t)).cell? ((⟨H, 0, none⟩ : Addr).add j) = some u := by
  intro j u hj
  subst hH
  have e : (⟨w.heap.size, 0, none⟩ : Addr).add j = ⟨w.heap.size, j, none⟩ := by
    unfold Addr.add
    split
    · simp_all
    · simp
  rw [e, cell_of_row _ _ j _ t (0, 0) (heap_alloc_new w _)]
  simpa using hj
/-- append(v, x) of one element, that the walk has just laid into a block of its own. -/
theorem app_one {w : World} {ops : Array Oper} {rest : List Oper} {o : Oper} {a : Act} {Q : Exit → Act → World → Prop} (hgd : o.guard = none) (s x : Operand) (t e : TypeId)
    (ho : o.op = .call { callee := .builtin .append, args := #[s, x], argTypes := #[t, t] })
    (z : Value) (size bytes : Nat) (ht : P.underlying t = some (.slice e)) (hinfo : (P.info? e).map (fun i => (i.zero, i.size, i.bytes)) = some (some z, size, bytes)) (hzs : z.cells.size = size) (hsz : 0 < size) (hby : bytes ≤ 10000)
    (base : Nat) (v : Value) (n : Nat) (xs : List Value) (hs : a.eval s = v) (hown : w.ownsRow base e size v n xs)
    (H : Nat) (news : List Value) (hx : a.eval x = .slice (some ⟨H, 0, none⟩) 1 1) (hl : news.length = size) (h1 : ∀ u ∈ news, u.oneCell' = true) (hH : w.heap.size = H)
    (hlen : n ≤ 3000000000) (hbase : base ≤ w.heap.size)
    (h : ∀ v' w', Hid (Appended w base e size v (n + 1) (xs ++ news) (H + 1) v' w') → wpList P ops Q rest (a.put o.dst v') w') : wpList P ops Q (o :: rest) a (w.alloc (.cells news.toArray e)) := by
  refine app_src hgd s x t e ho z size bytes ht hinfo hzs hsz hby base v n xs hs (hown.alloc _) (some ⟨H, 0, none⟩) 1 1 news hx (by omega) (fun _ => ⟨_, rfl, cells_new w news e H hH⟩) h1 (by omega) (by simp; omega) (H + 1) (by simp [hH]) ?_
  intro v' w' hap
  obtain ⟨a1, a2, a3, a4⟩ := hap.out
  have hg := grown_of_alloc a3
  exact h v' w' (Lib.hid ⟨a1, grown_below hg hbase (own_block_ge hown), hg, a4⟩)
end
theorem Appended.own {w w' : World} {base : Nat} {e : TypeId} {size : Nat} {v v' : Value} {n : Nat} {xs : List Value} {H : Nat} (h : Appended w base e size v n xs H v' w') : w'.ownsRow base e size v' n xs := h.1
theorem Appended.below {w w' : World} {base : Nat} {e : TypeId} {size : Nat} {v v' : Value} {n : Nat} {xs : List Value} {H : Nat} (h : Appended w base e size v n xs H v' w') : Below base w w' := h.2.1
/-- A block of another element type than the written row's stands. -/
theorem grown_blk {w w' : World} {base : Nat} {e : TypeId} {size : Nat} {v : Value} {n0 : Nat} {xs0 : List Value} (hg : w.grownBy w' v.ownBlock) (ho : w.ownsRow base e size v n0 xs0)
    {g : Nat} {t : TypeId} {cs : Array Value} (hb : Blk w g t cs) (hne : e ≠ t) : Blk w' g t cs := by
  refine (hg.block g hb.lt ?_).trans hb
  rcases ho.2 with ⟨rfl, _⟩ | ⟨g', cap, cur, rfl, _, hh, _⟩
  · simp [Value.ownBlock]
  · simp only [Value.ownBlock]
    intro he
    cases he
    unfold Blk at hb
    rw [hh] at hb
    cases hb
    exact hne rfl
/-- A block of another element type than the row's stands. -/
theorem Appended.blk {w w' : World} {base : Nat} {e : TypeId} {size : Nat} {v v' : Value} {n : Nat} {xs : List Value} {H : Nat} (h : Appended w base e size v n xs H v' w') {n0 : Nat} {xs0 : List Value} (ho : w.ownsRow base e size v n0 xs0)
    {g : Nat} {t : TypeId} {cs : Array Value} (hb : Blk w g t cs) (hne : e ≠ t) : Blk w' g t cs := by
  refine (h.2.2.1.block g hb.lt ?_).trans hb
  rcases ho.2 with ⟨rfl, _⟩ | ⟨g', cap, cur, rfl, _, hh, _⟩
  · simp [Value.ownBlock]
  · simp only [Value.ownBlock]
    intro he
    cases he
    unfold Blk at hb
    rw [hh] at hb
    cases hb
    exact hne rfl
/-- A row in another block stands. -/
theorem Appended.row {w w' : World} {base : Nat} {e : TypeId} {size : Nat} {v v' : Value} {n : Nat} {xs : List Value} {H : Nat} (h : Appended w base e size v n xs H v' w') {base0 : Nat} {e0 : TypeId} {size0 n0 : Nat} {v0 : Value} {xs0 : List Value}
    (ho : w.ownsRow base0 e0 size0 v0 n0 xs0) (hne : ∀ k, v0.ownBlock = some k → v.ownBlock ≠ some k) : w'.ownsRow base0 e0 size0 v0 n0 xs0 := by
  refine World.ownsRow.kept ho h.2.2.1 ?_
  cases hv : v0.ownBlock with
  | none => exact .inl rfl
  | some k => exact .inr fun he => hne k hv he.symm
end Go.Proofs.YtdldochhondifaaGreatDoor
namespace Go.Proofs.YtdldochhondifaaGreatDoor
open Go.RowKit

/-- The slice value v reads as the bytes xs, below block B. -/
def BAt (w : World) (B : Nat) (v : Value) (xs : List Int) : Prop :=
  ∃ (A : Option Addr) (c : Nat), v = .slice A xs.length c ∧ xs.length ≤ c ∧ c ≤ 9223372036854775807 ∧
    (0 < xs.length → ∃ b off, A = some ⟨b, off, none⟩ ∧ b < B ∧ ∀ (k : Nat) (x : Int), xs[k]? = some x → w.cell? ⟨b, off + k, none⟩ = some (.int .u8 x))
theorem BAt.below {W w1 : World} {B B' : Nat} {v : Value} {xs : List Int} (h : BAt W B v xs) (hb : Below B' W w1) (hB : B ≤ B') : BAt w1 B v xs := by
  obtain ⟨A, c, e, h1, h2, h3⟩ := h
  refine ⟨A, c, e, h1, h2, fun hl => ?_⟩
  obtain ⟨b, off, e1, e2, e3⟩ := h3 hl
  exact ⟨b, off, e1, e2, fun k m hk => (bcell hb (Nat.lt_of_lt_of_le e2 hB)).trans (e3 k m hk)⟩
theorem BAt.more {w : World} {B B' : Nat} {v : Value} {xs : List Int} (h : BAt w B v xs) (hB : B ≤ B') : BAt w B' v xs := by
  obtain ⟨A, c, e, h1, h2, h3⟩ := h
  refine ⟨A, c, e, h1, h2, fun hl => ?_⟩
  obtain ⟨b, off, e1, e2, e3⟩ := h3 hl
  exact ⟨b, off, e1, by omega, e3⟩
theorem BAt.nil (w : World) (B : Nat) : BAt w B (.slice none 0 0) [] := ⟨none, 0, rfl, by simp, by omega, fun h => by simp at h⟩
theorem OwnB.bytes {w : World} {base : Nat} {v : Value} {xs : List Int} (h : OwnB w base v xs) : BAt w w.heap.size v xs := by
  have hc := fun {g : Nat} (hg : v.ownBlock = some g) => World.ownsRow.cells h hg
  rcases h.2 with ⟨rfl, hn⟩ | ⟨g, cap, cur, rfl, _, hgg, hnc, hcm, _, _⟩
  · exact ⟨none, 0, by rw [hn], by omega, by omega, fun h => by omega⟩
  · refine ⟨some ⟨g, 0, none⟩, cap, rfl, hnc, by unfold maxLen at hcm; omega, fun _ => ⟨g, 0, rfl, ?_, fun k x hk => ?_⟩⟩
    · rcases Nat.lt_or_ge g w.heap.size with h | h
      · exact h
      · rw [Array.getElem?_eq_none h] at hgg; cases hgg
    · have := hc (g := g) rfl k (.int .u8 x) (by rw [List.getElem?_map, hk]; rfl)
      rw [← this]
      unfold Addr.add
      split <;> simp_all
/-- string(b) of such a slice. -/
theorem conv_bytes {w : World} {B : Nat} {v : Value} {xs : List Int} (h : BAt w B v xs) : (convert 72 9 v).run Tryz.prog w = .ok (.string (strOfNums xs)) w := by
  obtain ⟨A, c, rfl, h1, h2, h3⟩ := h
  cases A with
  | none =>
    have h0 : xs.length = 0 := by
      rcases Nat.eq_zero_or_pos xs.length with h | h
      · exact h
      · obtain ⟨b, off, e, _⟩ := h3 h
        cases e
    rw [List.eq_nil_of_length_eq_zero h0]
    exact run_convert_bytes_nil w 72 5 Tryz.underlying72 Tryz.underlying5 _ _ _ Tryz.underlying9
  | some a =>
    by_cases hpos : 0 < xs.length
    · obtain ⟨b, off, e, _, hc⟩ := h3 hpos
      cases e
      refine run_convert_bytes_arg w 72 5 Tryz.underlying72 Tryz.underlying5 b off xs.length c xs rfl (fun i hi => ?_) _ Tryz.underlying9
      have := hc i xs[i] (List.getElem?_eq_getElem hi)
      rw [this, List.getD_eq_getElem?_getD, List.getElem?_eq_getElem hi]
      rfl
    · have h0 : xs = [] := List.eq_nil_of_length_eq_zero (by omega)
      subst h0
      obtain ⟨b, off, s⟩ := a
      have hl : (loadCells ⟨b, off, s⟩ 0).run Tryz.prog w = .ok (([] : List Int).map (Value.int .u8)).toArray w := by
        have := run_loadCells_list (P := Tryz.prog) w ⟨b, off, s⟩ [] (fun j v hj => by simp at hj)
        simpa using this
      rw [run_convert_bytes_string w 72 9 5 _ _ c Tryz.underlying72 Tryz.underlying5 Tryz.underlying9, List.length_nil, run_bytesToString w _ 0 c [] hl]
      rfl
end Go.Proofs.YtdldochhondifaaGreatDoor
namespace Go.Proofs.YtdldochhondifaaGreatDoor
open Go.RowKit

theorem infoMac : (Tryz.prog.info? 39).map (fun i => (i.zero, i.size, i.bytes)) = some (some (.agg #[.int .i64 0, .int .i64 0, .int .i64 0, .int .i64 0, .int .i64 0]), 5, 40) := by kernel_rfl
/-- All cells of a list. -/
def cellsS (ms : List Mac) : List Value := (ms.map Mac.cells).flatten
theorem cellsS_snoc (ms : List Mac) (m : Mac) : cellsS (ms ++ [m]) = cellsS ms ++ m.cells := by
  unfold cellsS
  rw [List.map_append, List.flatten_append]
  simp
theorem cellsS_at : ∀ (ms : List Mac) (k : Nat) (m : Mac), ms[k]? = some m → ∀ j, j < 5 → (cellsS ms)[k * 5 + j]? = m.cells[j]?
  | [], k, m, h, _, _ => by simp at h
  | m0 :: ms, 0, m, h, j, hj => by
    simp only [List.getElem?_cons_zero, Option.some.injEq] at h
    subst h
    unfold cellsS
    rw [List.map_cons, List.flatten_cons, Nat.zero_mul, Nat.zero_add, List.getElem?_append_left (by simpa [Mac.cells] using hj)]
  | m0 :: ms, k + 1, m, h, j, hj => by
    have ih := cellsS_at ms k m (by simpa using h) j hj
    unfold cellsS at *
    rw [List.map_cons, List.flatten_cons, List.getElem?_append_right (by simp [Mac.cells]; omega)]
    rw [← ih]
    congr 1
    simp [Mac.cells]
    omega
/-- The cells from an offset on are a list's. -/
theorem macs_of_cells {w : World} {b off c : Nat} {ms : List Mac} {cs : Array Value} {t : TypeId} (hb : Blk w b t cs) (hc : ∀ j u, (cellsS ms)[j]? = some u → cs[off + j]? = some u) (hl : ms.length ≤ c) (h63 : ms.length ≤ 9223372036854775807) :
    MacsAt w w.heap.size (.slice (some ⟨b, off, none⟩) ms.length c) ms := by
  refine ⟨_, c, rfl, hl, h63, fun _ => ⟨b, off, rfl, hb.lt, fun k m hk => ?_⟩⟩
  have hat := fun j (hj : j < 5) => cellsS_at ms k m hk j hj
  have cell : ∀ j u, j < 5 → m.cells[j]? = some u → w.cell? ⟨b, off + k * 5 + j, none⟩ = some u := by
    intro j u hj hu
    rw [hb.cell, Nat.add_assoc]
    exact hc _ u ((hat j hj).trans hu)
  exact ⟨cell 0 _ (by omega) rfl, cell 1 _ (by omega) rfl, cell 2 _ (by omega) rfl, cell 3 _ (by omega) rfl, cell 4 _ (by omega) rfl⟩
/-- The call owns the slice v, which reads as the instructions ms. -/
def OwnMacs (w : World) (base : Nat) (v : Value) (ms : List Mac) : Prop := w.ownsRow base 39 5 v ms.length (cellsS ms)
theorem OwnMacs.nil (w : World) (base : Nat) : OwnMacs w base (.slice none 0 0) [] := World.ownsRow_nil w base 39 5
theorem OwnMacs.snoc {w : World} {base : Nat} {v : Value} {ms : List Mac} {m : Mac} (h : w.ownsRow base 39 5 v (ms.length + 1) (cellsS ms ++ m.cells)) : OwnMacs w base v (ms ++ [m]) := by
  unfold OwnMacs
  rw [cellsS_snoc, List.length_append]
  exact h
theorem OwnMacs.below {w w' : World} {base B : Nat} {v : Value} {ms : List Mac} (h : OwnMacs w base v ms) (hb : Below B w w') (hB : B = w.heap.size) : OwnMacs w' base v ms := by
  refine World.ownsRow.kept (row := none) h ⟨hb.os, hb.tape, hb.output, hb.size, fun k hk _ => hb.block k (by omega)⟩ ?_
  cases v.ownBlock <;> simp
theorem OwnMacs.macs {w : World} {base : Nat} {v : Value} {ms : List Mac} (h : OwnMacs w base v ms) : MacsAt w w.heap.size v ms := by
  rcases h.2 with ⟨rfl, hn⟩ | ⟨g, cap, cur, rfl, _, hgg, hnc, hcm, _, _⟩
  · have : ms = [] := List.eq_nil_of_length_eq_zero hn
    subst this
    exact ⟨none, 0, rfl, by simp, by simp, fun h => by simp at h⟩
  · refine macs_of_cells (b := g) (off := 0) (t := 39) (cs := cur) hgg (fun j u hu => ?_) hnc (by unfold maxLen at hcm; omega)
    have hc := World.ownsRow.cells h (g := g) rfl j u hu
    have e : (⟨g, 0, none⟩ : Addr).add j = ⟨g, j, none⟩ := by
      unfold Addr.add
      split <;> simp_all
    rw [e, cell_of_row w g j cur 39 (0, 0) hgg] at hc
    rw [Nat.zero_add]
    exact hc
theorem cells_one (m : Mac) : ∀ u ∈ m.cells, u.oneCell' = true := by
  intro u hu
  simp only [Mac.cells, List.mem_cons, List.not_mem_nil, or_false] at hu
  rcases hu with rfl | rfl | rfl | rfl | rfl <;> rfl
end Go.Proofs.YtdldochhondifaaGreatDoor
