/-
  Contracts of core.Name, core.Within and the reference's GoodName.
  Conditions: none.
-/
import Derived.Test.YtliampeaecgagaaDoorMacB
namespace Go.Proofs.YtliampeaecgagaaDoor
open Go.RowKit

/-- May a letter stand at a place of a name? -/
def okB (k : Nat) (x : Int) : Bool := decide ((97 ≤ x ∧ x ≤ 122) ∨ (65 ≤ x ∧ x ≤ 90) ∨ x = 95 ∨ (0 < k ∧ 48 ≤ x ∧ x ≤ 57))
/-- May a text be a name? -/
def nameS (s : ByteArray) : Bool := decide (1 ≤ s.size ∧ s.size ≤ 12) && (List.range s.size).all fun k => okB k ((s.data.toList.getD k 0).toNat : Int)
theorem byte_getD (s : ByteArray) (k : Nat) (h : k < s.size) : s.data.toList.getD k 0 = s[k] := by
  rw [List.getD_eq_getElem?_getD, List.getElem?_eq_getElem (by simpa using h)]
  rfl
theorem name_yes (s : ByteArray) (h1 : 1 ≤ s.size) (h2 : s.size ≤ 12) (h : ∀ (j : Nat) (hj : j < s.size), okB j (s[j].toNat : Int) = true) : nameS s = true := by
  unfold nameS
  rw [Bool.and_eq_true, decide_eq_true_eq, List.all_eq_true]
  refine ⟨⟨h1, h2⟩, fun k hk => ?_⟩
  have hk' : k < s.size := by simpa using hk
  rw [byte_getD s k hk']
  exact h k hk'
theorem name_size (s : ByteArray) (h : s.size < 1 ∨ 12 < s.size) : nameS s = false := by
  unfold nameS
  rw [Bool.and_eq_false_iff]
  left
  rw [decide_eq_false_iff_not]
  omega
theorem name_no (s : ByteArray) (k : Nat) (hk : k < s.size) (h : okB k (s[k].toNat : Int) = false) : nameS s = false := by
  unfold nameS
  rw [Bool.and_eq_false_iff]
  right
  rw [List.all_eq_false]
  refine ⟨k, by simpa using hk, ?_⟩
  rw [byte_getD s k hk, h]
  simp
set_option maxHeartbeats 2000000 in
theorem Name_any (s : ByteArray) (w : World) (hs : s.size ≤ 9223372036854775807) : Calls Tryd.prog 77 #[.string s] w fun e w' => e = .returned (.bool (nameS s)) ∧ w = w' := by
  by_cases hz : s.size < 1 ∨ 12 < s.size
  · have HN := Lib.hid (name_size s hz)
    rcases hz with hz | hz
    all_goals
      go_enter Tryd.func77, Tryd.ntmps77
      go_wp2_with fail
      go_ret
      exact ⟨ret_bool HN.out.symm, rfl⟩
  · have h1 : 1 ≤ s.size := by omega
    have h2 : s.size ≤ 12 := by omega
    clear hz
    go_enter Tryd.func77, Tryd.ntmps77
    go_wp2_with fail
    go_loop [15] (fun i => ∃ k : Nat, k ≤ s.size ∧ i = .int .i64 k ∧ Hid (∀ (j : Nat) (hj : j < s.size), j < k → okB j (s[j].toNat : Int) = true)) (fun i => s.size - (intOf i).toNat)
    case atStart => exact ⟨0, Nat.zero_le _, rfl, Lib.hid (fun j _ h => absurd h (Nat.not_lt_zero j))⟩
    case round =>
      obtain ⟨k, hk, rfl, H⟩ := hrel
      by_cases hlt : k < s.size
      · have hx0 : (0 : Int) ≤ (s[k].toNat : Int) := by omega
        rcases (by omega : ((s[k].toNat : Int) < 48) ∨ (48 ≤ (s[k].toNat : Int) ∧ (s[k].toNat : Int) ≤ 57) ∨ (58 ≤ (s[k].toNat : Int) ∧ (s[k].toNat : Int) ≤ 64) ∨ (65 ≤ (s[k].toNat : Int) ∧ (s[k].toNat : Int) ≤ 90) ∨ (91 ≤ (s[k].toNat : Int) ∧ (s[k].toNat : Int) ≤ 94) ∨ (95 ≤ (s[k].toNat : Int) ∧ (s[k].toNat : Int) ≤ 95) ∨ (96 ≤ (s[k].toNat : Int) ∧ (s[k].toNat : Int) ≤ 96) ∨ (97 ≤ (s[k].toNat : Int) ∧ (s[k].toNat : Int) ≤ 122) ∨ (123 ≤ (s[k].toNat : Int))) with a1 | ⟨a1, a2⟩ | ⟨a1, a2⟩ | ⟨a1, a2⟩ | ⟨a1, a2⟩ | ⟨a1, a2⟩ | ⟨a1, a2⟩ | ⟨a1, a2⟩ | a1
        all_goals
          first | (have hb : ((s[k].toNat : Int) == 95) = true := by simp; omega) | (have hb : ((s[k].toNat : Int) == 95) = false := by simp; omega)
          by_cases h0 : k = 0
          all_goals
            first | (have hb0 : ((k : Int) == 0) = true := by simp [h0]) | (have hb0 : ((k : Int) == 0) = false := by simp [h0])
            first | (have hk0 : 0 < k := by omega) | (have hk0 : k < 1 := by omega)
            clear h0
            go_wp2_with fail
            all_goals first
              | (go_round
                 case rel =>
                   refine ⟨k + 1, by omega, by go_num, Lib.hid fun j hj hjk => ?_⟩
                   rcases Nat.lt_or_ge j k with h | h
                   · exact H.out j hj h
                   · obtain rfl : j = k := by omega
                     unfold okB
                     rw [decide_eq_true_eq]
                     omega
                 case measure => simp [intOf]; omega)
              | (go_ret
                 refine ⟨ret_bool (name_no s k hlt ?_).symm, rfl⟩
                 unfold okB
                 rw [decide_eq_false_iff_not]
                 omega)
              | (exfalso
                 simp only [Bool.not_eq_false', decide_eq_true_eq] at *
                 omega)
      · have HN := Lib.hid (name_yes s h1 h2 fun j hj => H.out j hj (by omega))
        go_wp2_with fail
        go_ret
        exact ⟨ret_bool HN.out.symm, rfl⟩
set_option maxHeartbeats 2000000 in
theorem GoodName_any (s : ByteArray) (w : World) (hs : s.size ≤ 9223372036854775807) : Calls Tryd.prog 50 #[.string s] w fun e w' => e = .returned (.bool (nameS s)) ∧ w = w' := by
  by_cases hz : s.size < 1 ∨ 12 < s.size
  · have HN := Lib.hid (name_size s hz)
    rcases hz with hz | hz
    all_goals
      go_enter Tryd.func50, Tryd.ntmps50
      go_wp2_with fail
      go_ret
      exact ⟨ret_bool HN.out.symm, rfl⟩
  · have h1 : 1 ≤ s.size := by omega
    have h2 : s.size ≤ 12 := by omega
    clear hz
    go_enter Tryd.func50, Tryd.ntmps50
    go_wp2_with fail
    go_loop [3] (fun i => ∃ k : Nat, k ≤ s.size ∧ i = .int .i64 k ∧ Hid (∀ (j : Nat) (hj : j < s.size), j < k → okB j (s[j].toNat : Int) = true)) (fun i => s.size - (intOf i).toNat)
    case atStart => exact ⟨0, Nat.zero_le _, rfl, Lib.hid (fun j _ h => absurd h (Nat.not_lt_zero j))⟩
    case round =>
      obtain ⟨k, hk, rfl, H⟩ := hrel
      by_cases hlt : k < s.size
      · have hx0 : (0 : Int) ≤ (s[k].toNat : Int) := by omega
        rcases (by omega : ((s[k].toNat : Int) < 48) ∨ (48 ≤ (s[k].toNat : Int) ∧ (s[k].toNat : Int) ≤ 57) ∨ (58 ≤ (s[k].toNat : Int) ∧ (s[k].toNat : Int) ≤ 64) ∨ (65 ≤ (s[k].toNat : Int) ∧ (s[k].toNat : Int) ≤ 90) ∨ (91 ≤ (s[k].toNat : Int) ∧ (s[k].toNat : Int) ≤ 94) ∨ (95 ≤ (s[k].toNat : Int) ∧ (s[k].toNat : Int) ≤ 95) ∨ (96 ≤ (s[k].toNat : Int) ∧ (s[k].toNat : Int) ≤ 96) ∨ (97 ≤ (s[k].toNat : Int) ∧ (s[k].toNat : Int) ≤ 122) ∨ (123 ≤ (s[k].toNat : Int))) with a1 | ⟨a1, a2⟩ | ⟨a1, a2⟩ | ⟨a1, a2⟩ | ⟨a1, a2⟩ | ⟨a1, a2⟩ | ⟨a1, a2⟩ | ⟨a1, a2⟩ | a1
        all_goals
          first | (have hb : ((s[k].toNat : Int) == 95) = true := by simp; omega) | (have hb : ((s[k].toNat : Int) == 95) = false := by simp; omega)
          by_cases h0 : k = 0
          all_goals
            first | (have hb0 : ((k : Int) == 0) = true := by simp [h0]) | (have hb0 : ((k : Int) == 0) = false := by simp [h0])
            first | (have hk0 : 0 < k := by omega) | (have hk0 : k < 1 := by omega)
            clear h0
            go_wp2_with fail
            all_goals first
              | (go_round
                 case rel =>
                   refine ⟨k + 1, by omega, by go_num, Lib.hid fun j hj hjk => ?_⟩
                   rcases Nat.lt_or_ge j k with h | h
                   · exact H.out j hj h
                   · obtain rfl : j = k := by omega
                     unfold okB
                     rw [decide_eq_true_eq]
                     omega
                 case measure => simp [intOf]; omega)
              | (go_ret
                 refine ⟨ret_bool (name_no s k hlt ?_).symm, rfl⟩
                 unfold okB
                 rw [decide_eq_false_iff_not]
                 omega)
              | (exfalso
                 simp only [Bool.not_eq_false', decide_eq_true_eq] at *
                 omega)
      · have HN := Lib.hid (name_yes s h1 h2 fun j hj => H.out j hj (by omega))
        go_wp2_with fail
        go_ret
        exact ⟨ret_bool HN.out.symm, rfl⟩
theorem Within_any (n lo hi : Int) (w : World) : Calls Tryd.prog 96 #[.int .i64 n, .int .i64 lo, .int .i64 hi] w fun e w' => e = .returned (.bool (decide (lo ≤ n ∧ n ≤ hi))) ∧ w = w' := by
  by_cases h1 : lo ≤ n
  · by_cases h2 : n ≤ hi
    · go_enter Tryd.func96, Tryd.ntmps96
      go_wp2_with fail
      go_ret
      exact ⟨ret_bool (by simp; omega), rfl⟩
    · go_enter Tryd.func96, Tryd.ntmps96
      go_wp2_with fail
      go_ret
      exact ⟨ret_bool (by simp; omega), rfl⟩
  · go_enter Tryd.func96, Tryd.ntmps96
    go_wp2_with fail
    go_ret
    exact ⟨ret_bool (by simp; omega), rfl⟩
end Go.Proofs.YtliampeaecgagaaDoor
