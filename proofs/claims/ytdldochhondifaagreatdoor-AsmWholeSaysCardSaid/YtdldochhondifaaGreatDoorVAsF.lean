/-
  Texts of the claim AsmWholeSays (AsF): what each proves stands at its theorems.
  Conditions: as the theorems say.
-/
import Derived.Lib.ItoaNum
import Derived.Lib.Join
import Derived.Laws.Concat
import Derived.Deep.DeepCutAuto
import Derived.BigQuiet
import Derived.BigRegion
import Derived.Test.YtdldochhondifaaGreatDoorVMacE
namespace Go.Proofs.YtdldochhondifaaGreatDoor
open Go.RowKit

/-- A text of bytes as Go's string. -/
def mkS (l : List UInt8) : ByteArray := ⟨l.toArray⟩
theorem mkS_size (l : List UInt8) : (mkS l).size = l.length := by simp [mkS, ByteArray.size]
theorem mkS_append (x y : List UInt8) : mkS x ++ mkS y = mkS (x ++ y) := ByteArray.mk_append_mk x y
theorem mkS_list (l : List UInt8) : (mkS l).data.toList = l := by simp [mkS]
theorem mkS_inj {x y : List UInt8} (h : mkS x = mkS y) : x = y := by rw [← mkS_list x, h, mkS_list]
/-- The words by their number; those with a number have the words of those without. -/
def wordTab : List (List UInt8) := [[], [115, 101, 116], [109, 111, 118, 101], [110, 101, 103], [110, 111, 116], [97, 100, 100], [115, 117, 98], [109, 117, 108], [100, 105, 118], [114, 101, 109], [97, 110, 100], [111, 114], [120, 111, 114], [115, 104, 108], [115, 104, 114], [101, 113], [110, 101], [108, 116], [108, 101], [], [], [], [], [], [], [], [], [], [], [], [], [], [], [108, 111, 97, 100], [115, 116, 111, 114, 101], [103, 101, 116], [112, 117, 116], [106, 117, 109, 112], [105, 102], [105, 102, 110, 111, 116], [105, 102, 101, 113], [105, 102, 110, 101], [105, 102, 108, 116], [105, 102, 108, 101], [99, 97, 108, 108], [114, 101, 116, 117, 114, 110], [114, 101, 97, 100], [112, 114, 105, 110, 116]]
def plainI (op : Int) : Int := if 19 ≤ op ∧ op ≤ 32 then op - 14 else op
def wordL (op : Int) : List UInt8 := wordTab.getD (plainI op).toNat []
theorem plain_range {op : Int} (h : isOp op = true) : (1 ≤ plainI op ∧ plainI op ≤ 18) ∨ (33 ≤ plainI op ∧ plainI op ≤ 47) := by
  have := (isOp_iff op).1 h
  unfold plainI
  split <;> omega
/-- In which order an instruction's fields are told. -/
def ordL (op : Int) : List UInt8 := if op = 34 then [98, 97, 110] else fldL op
theorem dec_len : ∀ (k u : Nat), 1 ≤ k → u < 10 ^ k → (Lib.decDigits u).length ≤ k
  | 0, u, h, _ => absurd h (by omega)
  | 1, u, _, h2 => by
    rw [Lib.decDigits, dif_pos (by simpa using h2)]
    simp
  | k + 2, u, _, h2 => by
    rw [Lib.decDigits]
    split
    · simp
    · rw [List.length_append]
      have := dec_len (k + 1) (u / 10) (by omega) (by rw [Nat.pow_succ] at h2; omega)
      simp
      omega
theorem itoa_len {n : Int} (h : I64 n) : (Lib.itoa n).length ≤ 20 := by
  have h1 := h.1
  have h2 := h.2
  unfold Lib.itoa
  split
  · have := dec_len 19 n.natAbs (by omega) (by omega)
    simp
    omega
  · have := dec_len 19 n.toNat (by omega) (by omega)
    omega
theorem ord_len (op : Int) : (ordL op).length ≤ 3 := by
  unfold ordL
  split
  · simp
  · have h := fld_size op
    unfold fldS at h
    simpa [ByteArray.size] using h
end Go.Proofs.YtdldochhondifaaGreatDoor
namespace Go.Proofs.YtdldochhondifaaGreatDoor
open Go.RowKit
attribute [local go_sem] Oper.semAt_some

theorem dec_small {u : Nat} (h : u < 10) : Lib.decDigits u = [UInt8.ofNat (48 + u)] := by rw [Lib.decDigits, dif_pos h]
theorem dec_big {u : Nat} (h : ¬ u < 10) : Lib.decDigits u = Lib.decDigits (u / 10) ++ [UInt8.ofNat (48 + u % 10)] := by rw [Lib.decDigits, dif_neg h]
theorem digit_cut {u : Nat} (h : u < 10) : ({ data := #[48, 49, 50, 51, 52, 53, 54, 55, 56, 57] } : ByteArray).extract u (u + 1) = mkS (Lib.decDigits u) := by
  rw [dec_small h]
  obtain rfl | rfl | rfl | rfl | rfl | rfl | rfl | rfl | rfl | rfl : u = 0 ∨ u = 1 ∨ u = 2 ∨ u = 3 ∨ u = 4 ∨ u = 5 ∨ u = 6 ∨ u = 7 ∨ u = 8 ∨ u = 9 := by omega
  all_goals rfl
theorem tdiv10 (u : Nat) (h : u ≤ 9223372036854775807) : wrap64 ((u : Int).tdiv 10) = ((u / 10 : Nat) : Int) := by
  have e : (u : Int).tdiv 10 = ((u / 10 : Nat) : Int) := by
    rw [Int.tdiv_eq_ediv_of_nonneg (by omega)]
    omega
  rw [e]
  exact IntWalk.wrap64_in _ ⟨by omega, by omega⟩
theorem tmod10 (u : Nat) : (u : Int).tmod 10 = ((u % 10 : Nat) : Int) := by
  rw [Int.tmod_eq_emod_of_nonneg (by omega)]
  omega
set_option maxRecDepth 100000 in
theorem Digits_nat : ∀ (u : Nat), u ≤ 9223372036854775807 → ∀ w, Calls Tryz.prog 123 #[.int .i64 (u : Int)] w fun e w' => e = .returned (.string (mkS (Lib.decDigits u))) ∧ w = w' := by
  intro u
  induction u using Nat.strongRecOn with
  | _ u ih =>
    intro hu w
    have h0 : ¬ (u : Int) < 0 := by omega
    have h0' : (0 : Int) ≤ (u : Int) := by omega
    by_cases h : u < 10
    · have hs := Lib.hid (digit_cut h)
      have h1 : (u : Int) < 10 := by omega
      clear ih
      go_enter Tryz.func123, Tryz.ntmps123
      go_wp2_with fail
      all_goals
        go_ret
        exact ⟨ret_str hs.out, rfl⟩
    · have h1 : ¬ (u : Int) < 10 := by omega
      have hq := tdiv10 u hu
      have hr := tmod10 u
      have HA := Lib.hid (ih (u / 10) (by omega) (by omega) w)
      have HB := Lib.hid (ih (u % 10) (by omega) (by omega) w)
      rw [Int.natCast_ediv, show ((10 : Nat) : Int) = 10 from rfl] at HA
      rw [Int.natCast_emod, show ((10 : Nat) : Int) = 10 from rfl] at HB
      have hr9 : u % 10 < 10 := by omega
      rw [dec_small hr9] at HB
      have hl := dec_len 19 (u / 10) (by omega) (by omega)
      have hz : (mkS (Lib.decDigits (u / 10))).size ≤ 19 := by rw [mkS_size]; exact hl
      have hz1 : (mkS [UInt8.ofNat (48 + u % 10)]).size = 1 := by rw [mkS_size]; rfl
      have hsum : ¬ (mkS (Lib.decDigits (u / 10))).size + (mkS [UInt8.ofNat (48 + u % 10)]).size > 9223372036854775807 := by omega
      have e1 : mkS (Lib.decDigits (u / 10)) ++ mkS [UInt8.ofNat (48 + u % 10)] = mkS (Lib.decDigits u) := by rw [mkS_append, ← dec_big h]
      generalize mkS (Lib.decDigits (u / 10)) = D1 at *
      generalize mkS [UInt8.ofNat (48 + u % 10)] = D2 at *
      clear ih hl hz hz1 hr9 h
      go_enter Tryz.func123, Tryz.ntmps123
      go_wp2_with fail
      refine HA.out.mono ?_
      rintro e w' ⟨rfl, rfl⟩
      go_wp2_with fail
      refine HB.out.mono ?_
      rintro e w' ⟨rfl, rfl⟩
      go_wp2_with fail
      go_ret
      exact ⟨rfl, rfl⟩
set_option maxRecDepth 100000 in
theorem Digits_any (n : Int) (hn : I64 n) (w : World) : Calls Tryz.prog 123 #[.int .i64 n] w fun e w' => e = .returned (.string (mkS (Lib.itoa n))) ∧ w = w' := by
  by_cases h0 : n < 0
  · by_cases hm : n = -9223372036854775808
    · subst hm
      have hE : Hid (Lib.itoa (-9223372036854775808) = [45, 57, 50, 50, 51, 51, 55, 50, 48, 51, 54, 56, 53, 52, 55, 55, 53, 56, 48, 56]) := Lib.hid (by decide +kernel)
      have hw : wrap64 9223372036854775808 = -9223372036854775808 := by decide +kernel
      go_enter Tryz.func123, Tryz.ntmps123
      go_wp2_with fail
      refine bodyPost_ret (v := .string (mkS (Lib.itoa (-9223372036854775808)))) ?_ rfl ⟨rfl, rfl⟩
      rw [hE.out]
      simp [results, Tryz.results123, go_sem]
      rfl
    · obtain ⟨u, hu⟩ : ∃ u : Nat, -n = (u : Int) := ⟨n.natAbs, by omega⟩
      obtain rfl : n = -(u : Int) := by omega
      have h1 := hn.1
      have hu1 : u ≤ 9223372036854775807 := by omega
      have hE : Hid (Lib.itoa (-(u : Int)) = 45 :: Lib.decDigits u) := Lib.hid (by unfold Lib.itoa; rw [if_pos h0]; congr 1; congr 1; omega)
      have HA := Lib.hid (Digits_nat u hu1 w)
      have hz : (mkS (Lib.decDigits u)).size ≤ 19 := by rw [mkS_size]; exact dec_len 19 u (by omega) (by omega)
      have hsum : ¬ 1 + (mkS (Lib.decDigits u)).size > 9223372036854775807 := by omega
      have e1 : ({ data := #[45] } : ByteArray) ++ mkS (Lib.decDigits u) = mkS (Lib.itoa (-(u : Int))) := by rw [hE.out]; exact mkS_append [45] _
      have hne : ((-(u : Int)) == IntKind.i64.wrap (- -(u : Int))) = false := by
        rw [show (- -(u : Int)) = (u : Int) by omega, IntKind.wrap_i64, beq_eq_false_iff_ne]
        omega
      have hw : IntKind.i64.wrap (- -(u : Int)) = (u : Int) := by
        rw [show (- -(u : Int)) = (u : Int) by omega, IntKind.wrap_i64]
        omega
      generalize Lib.itoa (-(u : Int)) = I at *
      clear hm hn h1 hz
      go_enter Tryz.func123, Tryz.ntmps123
      go_wp2_with fail
      refine HA.out.mono ?_
      rintro e w' ⟨rfl, rfl⟩
      go_wp2_with fail
      go_ret
      exact ⟨rfl, rfl⟩
  · obtain ⟨u, rfl⟩ : ∃ u : Nat, n = (u : Int) := ⟨n.toNat, by omega⟩
    have e : Lib.itoa (u : Int) = Lib.decDigits u := by unfold Lib.itoa; rw [if_neg h0, Int.toNat_natCast]
    rw [e]
    have := hn.2
    exact Digits_nat u (by omega) w
end Go.Proofs.YtdldochhondifaaGreatDoor
namespace Go.Proofs.YtdldochhondifaaGreatDoor
open Go.RowKit
attribute [local go_sem] Oper.semAt_some

theorem word_val (k : Nat) (h : (1 ≤ k ∧ k ≤ 18) ∨ (33 ≤ k ∧ k ≤ 47)) :
    ([Value.string { data := #[63] }, Value.string { data := #[115, 101, 116] }, Value.string { data := #[109, 111, 118, 101] }, Value.string { data := #[110, 101, 103] }, Value.string { data := #[110, 111, 116] }, Value.string { data := #[97, 100, 100] }, Value.string { data := #[115, 117, 98] }, Value.string { data := #[109, 117, 108] }, Value.string { data := #[100, 105, 118] }, Value.string { data := #[114, 101, 109] }, Value.string { data := #[97, 110, 100] }, Value.string { data := #[111, 114] }, Value.string { data := #[120, 111, 114] }, Value.string { data := #[115, 104, 108] }, Value.string { data := #[115, 104, 114] }, Value.string { data := #[101, 113] }, Value.string { data := #[110, 101] }, Value.string { data := #[108, 116] }, Value.string { data := #[108, 101] }, Value.string { data := #[63] }, Value.string { data := #[63] }, Value.string { data := #[63] }, Value.string { data := #[63] }, Value.string { data := #[63] }, Value.string { data := #[63] }, Value.string { data := #[63] }, Value.string { data := #[63] }, Value.string { data := #[63] }, Value.string { data := #[63] }, Value.string { data := #[63] }, Value.string { data := #[63] }, Value.string { data := #[63] }, Value.string { data := #[63] }, Value.string { data := #[108, 111, 97, 100] }, Value.string { data := #[115, 116, 111, 114, 101] }, Value.string { data := #[103, 101, 116] }, Value.string { data := #[112, 117, 116] }, Value.string { data := #[106, 117, 109, 112] }, Value.string { data := #[105, 102] }, Value.string { data := #[105, 102, 110, 111, 116] }, Value.string { data := #[105, 102, 101, 113] }, Value.string { data := #[105, 102, 110, 101] }, Value.string { data := #[105, 102, 108, 116] }, Value.string { data := #[105, 102, 108, 101] }, Value.string { data := #[99, 97, 108, 108] }, Value.string { data := #[114, 101, 116, 117, 114, 110] }, Value.string { data := #[114, 101, 97, 100] }, Value.string { data := #[112, 114, 105, 110, 116] }] : List Value)[k]? = some (.string (mkS (wordTab.getD k []))) := by
  obtain rfl | rfl | rfl | rfl | rfl | rfl | rfl | rfl | rfl | rfl | rfl | rfl | rfl | rfl | rfl | rfl | rfl | rfl | rfl | rfl | rfl | rfl | rfl | rfl | rfl | rfl | rfl | rfl | rfl | rfl | rfl | rfl | rfl :
    k = 1 ∨ k = 2 ∨ k = 3 ∨ k = 4 ∨ k = 5 ∨ k = 6 ∨ k = 7 ∨ k = 8 ∨ k = 9 ∨ k = 10 ∨ k = 11 ∨ k = 12 ∨ k = 13 ∨ k = 14 ∨ k = 15 ∨ k = 16 ∨ k = 17 ∨ k = 18 ∨ k = 33 ∨ k = 34 ∨ k = 35 ∨ k = 36 ∨ k = 37 ∨ k = 38 ∨ k = 39 ∨ k = 40 ∨ k = 41 ∨ k = 42 ∨ k = 43 ∨ k = 44 ∨ k = 45 ∨ k = 46 ∨ k = 47 := by omega
  all_goals rfl
set_option maxRecDepth 100000 in
set_option maxHeartbeats 1000000 in
theorem asmWord_any (op : Int) (h : isOp op = true) (w : World) :
    Calls Tryz.prog 71 #[.int .i64 op] w fun e w' => e = .returned (.string (mkS (wordL op))) ∧ Below w.heap.size w w' := by
  obtain ⟨h1, h2⟩ := (isOp_iff op).1 h
  have hT := word_val (plainI op).toNat (by rcases plain_range h with h | h <;> omega)
  by_cases hp : 19 ≤ op ∧ op ≤ 32
  · have e : plainI op = op - 14 := by unfold plainI; rw [if_pos hp]
    have HE : Hid (wordL op = wordTab.getD (op - 14).toNat []) := Lib.hid (by unfold wordL; rw [e])
    rw [e] at hT
    obtain ⟨h3, h4⟩ := hp
    clear h e
    go_enter Tryz.func71, Tryz.ntmps71
    go_wp2
    go_ret
    exact ⟨ret_str (by rw [HE.out, List.getD_eq_getElem?_getD]), (Below.refl _ _).alloc (Nat.le_refl _) _⟩
  · have e : plainI op = op := by unfold plainI; rw [if_neg hp]
    have HE : Hid (wordL op = wordTab.getD op.toNat []) := Lib.hid (by unfold wordL; rw [e])
    rw [e] at hT
    rcases (by omega : op < 19 ∨ 32 < op) with h3 | h3
    all_goals
      clear hp h e
      go_enter Tryz.func71, Tryz.ntmps71
      go_wp2
      go_ret
      exact ⟨ret_str (by rw [HE.out, List.getD_eq_getElem?_getD]), (Below.refl _ _).alloc (Nat.le_refl _) _⟩
set_option maxRecDepth 100000 in
theorem asmOrder_any (op : Int) (w : World) :
    Calls Tryz.prog 70 #[.int .i64 op] w fun e w' => e = .returned (.string (mkS (ordL op))) ∧ Below w.heap.size w w' := by
  by_cases h : op = 34
  · subst h
    go_enter Tryz.func70, Tryz.ntmps70
    go_wp2_with fail
    go_ret
    exact ⟨rfl, Below.refl _ _⟩
  · have HE : Hid (fldS op = mkS (ordL op)) := Lib.hid (by unfold ordL; rw [if_neg h]; rfl)
    have HF := Lib.hid (Fields_any op w)
    go_enter Tryz.func70, Tryz.ntmps70
    go_wp2_with fail
    refine HF.out.mono ?_
    rintro e w' ⟨rfl, hb⟩
    go_wp2_with fail
    go_ret
    exact ⟨ret_str HE.out, hb⟩
end Go.Proofs.YtdldochhondifaaGreatDoor
