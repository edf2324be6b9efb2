/-
  Contracts of the small functions of mac and of the reference: field, number, Of, Fields, Has, Index, Contains, Max.
  Conditions: Of reads the table shapes, which lies as its initialiser lays it.
-/
import Derived.Test.YtdldochhondifaaDoorBase
namespace Go.Proofs.YtdldochhondifaaDoor
open Go.RowKit

/-- What a register's field is worth: 0, or a fault. -/
def fieldS (u : Bool) (r : Int) : Int := if u then (if r < 0 ∨ 16 ≤ r then 3 else 0) else if r = 0 then 0 else 5
set_option maxHeartbeats 400000 in
theorem field_any (u : Bool) (r : Int) (w : World) :
    Calls Tryd.prog 39 #[.bool u, .int .i64 r] w fun e w' => e = .returned (.int .i64 (fieldS u r)) ∧ w = w' := by
  cases u
  all_goals
    go_enter Tryd.func39, Tryd.ntmps39
    go_wp2
    all_goals (go_ret; refine ⟨ret_int ?_, rfl⟩; unfold fieldS; simp at *; try omega)

/-- What a number's field is worth. -/
def numberS (kind n many : Int) : Int :=
  if kind = 1 then 0 else if kind = 0 then (if n = 0 then 0 else 5) else if kind = 3 then (if n < 0 ∨ 120 ≤ n then 3 else 0)
  else if kind = 4 then (if n < 0 then 3 else 0) else (if n < 0 ∨ many ≤ n then 3 else 0)
set_option maxHeartbeats 400000 in
theorem number_any (kind n many : Int) (w : World) :
    Calls Tryd.prog 40 #[.int .i64 kind, .int .i64 n, .int .i64 many] w fun e w' => e = .returned (.int .i64 (numberS kind n many)) ∧ w = w' := by
  go_enter Tryd.func40, Tryd.ntmps40
  go_wp2
  all_goals (go_ret; refine ⟨ret_int ?_, rfl⟩; unfold numberS; simp at *; try (first | omega | (subst_vars; simp; omega) | (simp_all; try omega)))

/-- The fields that an Op speaks of, as the reference tells them. -/
def fldTab : List (List UInt8) := [[63], [100, 110], [100, 97], [100, 97], [100, 97], [], [], [], [], [], [], [], [], [], [], [], [], [], [], [], [], [], [], [], [], [], [], [], [], [], [], [], [],
  [100, 97, 110], [97, 98, 110], [100, 119], [97, 119], [116], [97, 116], [97, 116], [], [], [], [], [114], [], [100], [97]]
def fldL (op : Int) : List UInt8 :=
  if op < 1 ∨ 47 < op then [63] else if 5 ≤ op ∧ op ≤ 18 then [100, 97, 98] else if 19 ≤ op ∧ op ≤ 32 then [100, 97, 110] else if 40 ≤ op ∧ op ≤ 43 then [97, 98, 116]
  else fldTab.getD op.toNat []
def fldS (op : Int) : ByteArray := ⟨(fldL op).toArray⟩
theorem fld_tab (op : Int) (h : 1 ≤ op ∧ op ≤ 47) (h1 : ¬ (5 ≤ op ∧ op ≤ 18)) (h2 : ¬ (19 ≤ op ∧ op ≤ 32)) (h3 : ¬ (40 ≤ op ∧ op ≤ 43)) :
    [Value.string { data := #[63] }, Value.string { data := #[100, 110] }, Value.string { data := #[100, 97] }, Value.string { data := #[100, 97] }, Value.string { data := #[100, 97] }, Value.string { data := #[] }, Value.string { data := #[] }, Value.string { data := #[] }, Value.string { data := #[] }, Value.string { data := #[] }, Value.string { data := #[] }, Value.string { data := #[] }, Value.string { data := #[] }, Value.string { data := #[] }, Value.string { data := #[] }, Value.string { data := #[] }, Value.string { data := #[] }, Value.string { data := #[] }, Value.string { data := #[] }, Value.string { data := #[] }, Value.string { data := #[] }, Value.string { data := #[] }, Value.string { data := #[] }, Value.string { data := #[] }, Value.string { data := #[] }, Value.string { data := #[] }, Value.string { data := #[] }, Value.string { data := #[] }, Value.string { data := #[] }, Value.string { data := #[] }, Value.string { data := #[] }, Value.string { data := #[] }, Value.string { data := #[] }, Value.string { data := #[100, 97, 110] }, Value.string { data := #[97, 98, 110] }, Value.string { data := #[100, 119] }, Value.string { data := #[97, 119] }, Value.string { data := #[116] }, Value.string { data := #[97, 116] }, Value.string { data := #[97, 116] }, Value.string { data := #[] }, Value.string { data := #[] }, Value.string { data := #[] }, Value.string { data := #[] }, Value.string { data := #[114] }, Value.string { data := #[] }, Value.string { data := #[100] }, Value.string { data := #[97] }][op.toNat]? = some (.string (fldS op)) := by
  obtain rfl | rfl | rfl | rfl | rfl | rfl | rfl | rfl | rfl | rfl | rfl | rfl | rfl | rfl | rfl :
    op = 1 ∨ op = 2 ∨ op = 3 ∨ op = 4 ∨ op = 33 ∨ op = 34 ∨ op = 35 ∨ op = 36 ∨ op = 37 ∨ op = 38 ∨ op = 39 ∨ op = 44 ∨ op = 45 ∨ op = 46 ∨ op = 47 := by omega
  all_goals rfl
theorem fld_lo (op : Int) (h : op < 1 ∨ 47 < op) : fldS op = ⟨#[63]⟩ := by unfold fldS fldL; rw [if_pos h]
theorem fld_two (op : Int) (h : 5 ≤ op ∧ op ≤ 18) : fldS op = ⟨#[100, 97, 98]⟩ := by unfold fldS fldL; rw [if_neg (by omega), if_pos h]
theorem fld_num (op : Int) (h : 19 ≤ op ∧ op ≤ 32) : fldS op = ⟨#[100, 97, 110]⟩ := by unfold fldS fldL; rw [if_neg (by omega), if_neg (by omega), if_pos h]
theorem fld_jmp (op : Int) (h : 40 ≤ op ∧ op ≤ 43) : fldS op = ⟨#[97, 98, 116]⟩ := by unfold fldS fldL; rw [if_neg (by omega), if_neg (by omega), if_neg (by omega), if_pos h]
set_option maxHeartbeats 1000000 in
theorem Fields_any (op : Int) (w : World) :
    Calls Tryd.prog 31 #[.int .i64 op] w fun e w' => e = .returned (.string (fldS op)) ∧ Below w.heap.size w w' := by
  by_cases h0 : op < 1 ∨ 47 < op
  · have hf := Lib.hid (fld_lo op h0)
    rcases h0 with h0 | h0
    all_goals
      go_enter Tryd.func31, Tryd.ntmps31
      go_wp2
      go_ret
      exact ⟨ret_str hf.out.symm, Below.refl _ _⟩
  · have h1 : 1 ≤ op := by omega
    have h47 : op ≤ 47 := by omega
    by_cases h2 : 5 ≤ op ∧ op ≤ 18
    · have hf := Lib.hid (fld_two op h2)
      obtain ⟨ha, hb⟩ := h2
      clear h0
      go_enter Tryd.func31, Tryd.ntmps31
      go_wp2
      go_ret
      exact ⟨ret_str hf.out.symm, Below.refl _ _⟩
    by_cases h3 : 19 ≤ op ∧ op ≤ 32
    · have hf := Lib.hid (fld_num op h3)
      obtain ⟨ha, hb⟩ := h3
      clear h0
      go_enter Tryd.func31, Tryd.ntmps31
      go_wp2
      go_ret
      exact ⟨ret_str hf.out.symm, Below.refl _ _⟩
    by_cases h4 : 40 ≤ op ∧ op ≤ 43
    · have hf := Lib.hid (fld_jmp op h4)
      obtain ⟨ha, hb⟩ := h4
      clear h0
      go_enter Tryd.func31, Tryd.ntmps31
      go_wp2
      go_ret
      exact ⟨ret_str hf.out.symm, Below.refl _ _⟩
    · have hT := fld_tab op ⟨h1, h47⟩ h2 h3 h4
      clear h0
      rcases (by omega : op < 5 ∨ (32 < op ∧ op < 40) ∨ 43 < op) with ha | ⟨ha, hb⟩ | ha
      all_goals
        go_enter Tryd.func31, Tryd.ntmps31
        go_wp2
        go_ret
        exact ⟨rfl, (Below.refl _ _).alloc (Nat.le_refl _) _⟩

/-- Has a text a byte? -/
def hasS (s : ByteArray) (c : Int) : Bool := s.data.toList.any fun x => ((x.toNat : Int) == c)
theorem hasS_yes (s : ByteArray) (c : Int) (k : Nat) (h : k < s.size) (e : (s[k].toNat : Int) = c) : hasS s c = true := by
  unfold hasS
  rw [List.any_eq_true]
  exact ⟨s[k], by simp [ByteArray.getElem_eq_getElem_data], by simp [e]⟩
theorem hasS_no (s : ByteArray) (c : Int) (h : ∀ (k : Nat) (hk : k < s.size), (s[k].toNat : Int) ≠ c) : hasS s c = false := by
  unfold hasS
  rw [List.any_eq_false]
  intro x hx
  obtain ⟨i, hi, rfl⟩ := List.mem_iff_getElem.1 hx
  have := h i (by simpa using hi)
  simpa [ByteArray.getElem_eq_getElem_data] using this
set_option maxHeartbeats 400000 in
theorem Has_any (s : ByteArray) (c : Int) (w : World) (hs : s.size ≤ 9223372036854775807) :
    Calls Tryd.prog 30 #[.string s, .int .u8 c] w fun e w' => e = .returned (.bool (hasS s c)) ∧ w = w' := by
  go_enter Tryd.func30, Tryd.ntmps30
  go_wp2
  go_loop [5] (fun i => ∃ k : Nat, k ≤ s.size ∧ i = .int .i64 k ∧ Hid (∀ (j : Nat) (hj : j < s.size), j < k → (s[j].toNat : Int) ≠ c)) (fun i => s.size - (intOf i).toNat)
  case atStart => exact ⟨0, Nat.zero_le _, rfl, Lib.hid (fun j _ h => absurd h (Nat.not_lt_zero j))⟩
  case round =>
    obtain ⟨k, hk, rfl, H⟩ := hrel
    by_cases hlt : k < s.size
    · by_cases he : (s[k].toNat : Int) = c
      · have Hy := Lib.hid (hasS_yes s c k hlt he)
        have hb : ((s[k].toNat : Int) == c) = true := by simp [he]
        clear he
        go_wp2
        go_ret
        exact ⟨ret_bool Hy.out.symm, rfl⟩
      · have hb : ((s[k].toNat : Int) == c) = false := by simp [he]
        have He := Lib.hid he
        clear he
        go_wp2
        go_round
        case rel =>
          refine ⟨k + 1, by omega, by go_num, Lib.hid fun j hj hjk => ?_⟩
          rcases Nat.lt_or_ge j k with h | h
          · exact H.out j hj h
          · obtain rfl : j = k := by omega
            exact He.out
        case measure => simp [intOf]; omega
    · have Hn := Lib.hid (hasS_no s c fun j hj => H.out j hj (by omega))
      go_wp2
      go_ret
      exact ⟨ret_bool Hn.out.symm, rfl⟩
end Go.Proofs.YtdldochhondifaaDoor
