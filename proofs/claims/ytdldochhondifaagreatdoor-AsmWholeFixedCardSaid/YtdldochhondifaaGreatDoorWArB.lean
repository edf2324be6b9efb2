/-
  Texts of the claim AsmWholeFixed (ArB): what each proves stands at its theorems.
  Conditions: as the theorems say.
-/
import Derived.Lib.AtoiErrMem
import Derived.Test.YtdldochhondifaaGreatDoorWArR
import Derived.Test.YtdldochhondifaaGreatDoorWAsA
import Derived.Test.YtdldochhondifaaGreatDoorWSht
import Derived.Test.YtdldochhondifaaGreatDoorWAsF
namespace Go.Proofs.YtdldochhondifaaGreatDoor
open Go.RowKit
attribute [local go_sem] Oper.semAt_some

/-- The variables of strconv's two errors are set. -/
def Errs (w : World) : Prop := ∃ e1 e2, (w.cell? ⟨3, 0, none⟩ = some e1 ∧ (e1 = .nilIface ∨ ∃ te pe, e1 = .iface te pe)) ∧ (w.cell? ⟨4, 0, none⟩ = some e2 ∧ (e2 = .nilIface ∨ ∃ te pe, e2 = .iface te pe)) ∧ 5 < w.heap.size
theorem Errs.below {W w : World} {B : Nat} (h : Errs W) (hb : Below B W w) (hB : 5 < B) (hz : B ≤ w.heap.size) : Errs w := by
  obtain ⟨e1, e2, ⟨h1, h1'⟩, ⟨h2, h2'⟩, _⟩ := h
  exact ⟨e1, e2, ⟨(bcell hb (by omega)).trans h1, h1'⟩, ⟨(bcell hb (by omega)).trans h2, h2'⟩, by omega⟩
theorem Errs.own {W w : World} (h : Errs W) (hb : Below W.heap.size W w) : Errs w := h.below hb (by obtain ⟨_, _, _, _, h⟩ := h; exact h) hb.size
/-- What Atoi hands back: the number and no error, or an error. -/
def AtoiPost (s : List UInt8) (e : Ending) : Prop :=
  (∃ v, Lib.atoiAll s = .ok v ∧ I64 v ∧ e = .returned (.tuple #[.int .i64 v, .nilIface])) ∨
  ((∀ v, Lib.atoiAll s ≠ .ok v) ∧ ∃ n t p, I64 n ∧ e = .returned (.tuple #[.int .i64 n, .iface t p]))
theorem Atoi_any (s : List UInt8) (hs : s.length ≤ 281474976710656) (w : World) (he : Errs w) :
    Calls Tryz.prog 66 #[.string (mkS s)] w fun e w' => AtoiPost s e ∧ Below w.heap.size w w' := by
  obtain ⟨e1, e2, ⟨h1, h1'⟩, ⟨h2, h2'⟩, _⟩ := he
  have hz : (mkS s).size ≤ 281474976710656 := by rw [mkS_size]; exact hs
  cases h : Lib.atoiAll s with
  | ok v =>
    refine (Tryz.strconv_Atoi_ok (mkS s) (by omega) v (by rw [mkS_list]; exact h) w).mono ?_
    rintro e w' ⟨rfl, hw⟩
    have hb := Lib.atoiAll_bounds h
    refine ⟨.inl ⟨v, h, ⟨by omega, by omega⟩, rfl⟩, ?_⟩
    rcases hw with rfl | ⟨t, rfl⟩
    · exact Below.refl _ _
    · exact Lib.bytesWorld_below _ _ _
  | «syntax» =>
    refine (Tryz.strconv_Atoi_syntax (mkS s) hz (by rw [mkS_list]; exact h) e1 w h1 h1').mono ?_
    rintro e w' ⟨N, rfl, -, -, hb⟩
    exact ⟨.inr ⟨fun v hv => (by cases h.symm.trans hv), 0, _, _, ⟨by omega, by omega⟩, rfl⟩, hb⟩
  | range =>
    refine (Tryz.strconv_Atoi_range (mkS s) hz (by rw [mkS_list]; exact h) e2 w h2 h2').mono ?_
    rintro e w' ⟨N, rfl, -, -, hb⟩
    have hv := Lib.atoiSat_bounds (mkS s).data.toList
    exact ⟨.inr ⟨fun v hv => (by cases h.symm.trans hv), _, _, _, ⟨by omega, by omega⟩, rfl⟩, hb⟩
theorem numI_none {s : List UInt8} (h : ∀ v, Lib.atoiAll s ≠ .ok v) : numI s = none := by
  unfold numI
  cases ha : Lib.atoiAll s with
  | ok v => exact absurd ha (h v)
  | «syntax» => rfl
  | range => rfl
theorem numI_ok {s : List UInt8} {v : Int} (h : Lib.atoiAll s = .ok v) : numI s = if Lib.itoa v = s then some v else none := by
  unfold numI
  rw [h]
/-- A number and whether it is one. -/
def NumP (r : Option Int) (e : Ending) : Prop := ∃ n ok, I64 n ∧ e = .returned (.tuple #[.int .i64 n, .bool ok]) ∧ r = if ok = true then some n else none
theorem mkS_toList (l : List UInt8) : (mkS l).toList = l := by rw [ByteArray.toList_eq]; exact mkS_list l
theorem str_eq (x y : List UInt8) : ((mkS x).toList == (mkS y).toList) = decide (x = y) := by rw [mkS_toList, mkS_toList, Bool.eq_iff_iff, beq_iff_eq, decide_eq_true_iff]
set_option maxRecDepth 100000 in
theorem numeral_any (s : List UInt8) (hs : s.length ≤ 281474976710656) (w : World) (he : Errs w) (hp : Pow w) :
    Calls Tryz.prog 122 #[.string (mkS s)] w fun e w' => NumP (numI s) e ∧ Below w.heap.size w w' := by
  have HA := Lib.hid (Atoi_any s hs w he)
  go_enter Tryz.func122, Tryz.ntmps122
  go_wp2_with fail
  refine HA.out.mono ?_
  rintro e w' ⟨hpost, hb⟩
  rcases hpost with ⟨v, hv, hvI, rfl⟩ | ⟨hv, n, t, p, hn, rfl⟩
  · have HI := Lib.hid (Itoa_any v hvI w' (hp.own hb))
    go_wp2_with fail
    refine HI.out.mono ?_
    rintro e w'' ⟨rfl, hb2⟩
    go_wp2_with fail
    go_ret2
    rw [str_eq]
    exact ⟨⟨v, _, hvI, rfl, by rw [numI_ok hv]; simp⟩, hb.trans (hb2.mono hb.size)⟩
  · go_wp2_with fail
    go_ret2
    exact ⟨⟨n, false, hn, rfl, by rw [numI_none hv]; rfl⟩, hb⟩
/-- A number that is not negative, of at most so many digits. -/
def digI (s : List UInt8) (k : Nat) : Option Int := if s.length ≤ k then (match numI s with | some n => if 0 ≤ n then some n else none | none => none) else none
set_option maxRecDepth 100000 in
theorem digits_any (s : List UInt8) (k : Nat) (hs : s.length ≤ 281474976710656) (w : World) (he : Errs w) (hp : Pow w) :
    Calls Tryz.prog 58 #[.string (mkS s), .int .i64 k] w fun e w' => NumP (digI s k) e ∧ Below w.heap.size w w' := by
  have HA := Lib.hid (Atoi_any s hs w he)
  have hz : (mkS s).size = s.length := mkS_size s
  go_enter Tryz.func58, Tryz.ntmps58
  go_wp2_with fail
  refine HA.out.mono ?_
  rintro e w' ⟨hpost, hb⟩
  rcases hpost with ⟨v, hv, hvI, rfl⟩ | ⟨hv, n, t, p, hn, rfl⟩
  · have HI := Lib.hid (Itoa_any v hvI w' (hp.own hb))
    by_cases h0 : 0 ≤ v
    · by_cases h1 : s.length ≤ k
      · have hc : ((mkS s).size : Int) ≤ (k : Int) := by omega
        go_wp2_with fail
        refine HI.out.mono ?_
        rintro e w'' ⟨rfl, hb2⟩
        go_wp2_with fail
        go_ret2
        rw [str_eq]
        exact ⟨⟨v, _, hvI, rfl, by unfold digI; rw [if_pos h1, numI_ok hv]; by_cases h2 : Lib.itoa v = s <;> simp [h2, h0]⟩, hb.trans (hb2.mono hb.size)⟩
      · have hc : ¬ ((mkS s).size : Int) ≤ (k : Int) := by omega
        go_wp2_with fail
        go_ret2
        exact ⟨⟨v, false, hvI, rfl, by unfold digI; rw [if_neg h1]; rfl⟩, hb⟩
    · go_wp2_with fail
      go_ret2
      exact ⟨⟨v, false, hvI, rfl, by unfold digI; rw [numI_ok hv]; by_cases h2 : Lib.itoa v = s <;> simp [h2, h0]⟩, hb⟩
  · go_wp2_with fail
    go_ret2
    exact ⟨⟨n, false, hn, rfl, by unfold digI; rw [numI_none hv]; simp⟩, hb⟩
/-- A register's number. -/
def regI (s : List UInt8) : Option Int :=
  match s with
  | [] => none
  | c :: r => if c = 114 then (match numI r with | some n => if 0 ≤ n ∧ n < 16 then some n else none | none => none) else none
theorem regI_hit (r : List UInt8) : regI (114 :: r) = (match numI r with | some n => if 0 ≤ n ∧ n < 16 then some n else none | none => none) := by
  simp only [regI, if_true]
theorem regI_miss {s : List UInt8} (h : ¬ s.head? = some 114) : regI s = none := by
  cases s with
  | nil => rfl
  | cons c r =>
    show (if c = 114 then _ else _) = _
    rw [if_neg (fun e => h (by rw [e]; rfl))]
theorem numI_len {s : List UInt8} {n : Int} (h : numI s = some n) : 1 ≤ s.length ∧ s.length ≤ 20 := by
  obtain ⟨hn, rfl⟩ := numI_some.1 h
  refine ⟨?_, itoa_len hn⟩
  rcases Nat.eq_zero_or_pos (Lib.itoa n).length with h0 | h0
  · exfalso
    have : Lib.itoa n = [] := List.length_eq_zero_iff.1 h0
    unfold Lib.itoa at this
    split at this
    · simp at this
    · exact dec_ne _ this
  · exact h0
theorem dec_two {u : Nat} (h : u < 100) : (Lib.decDigits u).length ≤ 2 := dec_len 2 u (by omega) (by omega)
theorem reg_digits (r : List UInt8) : (match digI r 2 with | some n => if n < 16 then some n else none | none => none) = (match numI r with | some n => if 0 ≤ n ∧ n < 16 then some n else none | none => none) := by
  unfold digI
  cases h : numI r with
  | none => simp
  | some n =>
    obtain ⟨hn, e⟩ := numI_some.1 h
    by_cases h0 : 0 ≤ n
    · by_cases h1 : n < 16
      · have hl : r.length ≤ 2 := by
          rw [← e]
          unfold Lib.itoa
          rw [if_neg (by omega)]
          exact dec_two (by omega)
        simp [hl, h0, h1]
      · by_cases hl : r.length ≤ 2 <;> simp [hl, h0, h1]
    · by_cases hl : r.length ≤ 2 <;> simp [hl, h0]
theorem prefix_one (s : List UInt8) (c : UInt8) : Lib.hasPrefix s [c] = decide (s.head? = some c) ∧ Lib.trimPrefix s [c] = if s.head? = some c then s.tail else s := by
  unfold Lib.trimPrefix Lib.hasPrefix
  cases s with
  | nil => simp
  | cons a r =>
    by_cases h : a = c
    · subst h
      simp
    · have h' : ¬ c = a := fun e => h e.symm
      simp [h, h', List.isPrefixOf]
set_option maxRecDepth 100000 in
theorem register_any (s : List UInt8) (hs : s.length ≤ 281474976710656) (w : World) (he : Errs w) (hp : Pow w) :
    Calls Tryz.prog 64 #[.string (mkS s)] w fun e w' => NumP (regI s) e ∧ Below w.heap.size w w' := by
  have hC := Tryz.strings_CutPrefix (mkS s) ⟨#[114]⟩ w
  rw [mkS_list, show (⟨#[114]⟩ : ByteArray).data.toList = [114] from rfl, (prefix_one s 114).1, (prefix_one s 114).2] at hC
  by_cases h1 : s.head? = some 114
  · obtain ⟨r, rfl⟩ : ∃ r, s = 114 :: r := by
      cases s with
      | nil => simp at h1
      | cons c r =>
        have hc : c = 114 := by simpa using h1
        exact ⟨r, by rw [hc]⟩
    rw [if_pos h1, decide_eq_true h1, List.tail_cons] at hC
    have HC := Lib.hid hC
    have hD := digits_any r 2 (by rw [List.length_cons] at hs; omega) w he hp
    rw [show ((2 : Nat) : Int) = 2 from rfl] at hD
    have HD := Lib.hid hD
    have hr := reg_digits r
    clear hC hD h1
    go_enter Tryz.func64, Tryz.ntmps64
    go_wp2_with fail
    refine HC.out.mono ?_
    rintro e w' ⟨rfl, rfl⟩
    go_wp2_with fail
    refine HD.out.mono ?_
    rintro e w2 ⟨⟨n, ok, hn, rfl, hd⟩, hb⟩
    rw [hd] at hr
    cases ok with
    | false =>
      go_wp2_with fail
      go_ret2
      exact ⟨⟨n, false, hn, rfl, by rw [regI_hit, ← hr]; rfl⟩, hb⟩
    | true =>
      go_wp2_with fail
      go_ret2
      exact ⟨⟨n, decide (n < 16), hn, rfl, by rw [regI_hit, ← hr]; by_cases h2 : n < 16 <;> simp [h2]⟩, hb⟩
  · rw [if_neg h1, decide_eq_false h1] at hC
    have HC := Lib.hid hC
    have hD := digits_any s 2 hs w he hp
    rw [show ((2 : Nat) : Int) = 2 from rfl] at hD
    have HD := Lib.hid hD
    have hr := regI_miss h1
    clear hC hD h1
    go_enter Tryz.func64, Tryz.ntmps64
    go_wp2_with fail
    refine HC.out.mono ?_
    rintro e w' ⟨rfl, rfl⟩
    go_wp2_with fail
    refine HD.out.mono ?_
    rintro e w2 ⟨⟨n, ok, hn, rfl, hd⟩, hb⟩
    go_wp2_with fail
    go_ret2
    exact ⟨⟨n, false, hn, rfl, hr⟩, hb⟩
end Go.Proofs.YtdldochhondifaaGreatDoor
namespace Go.Proofs.YtdldochhondifaaGreatDoor
open Go.RowKit
attribute [local go_sem] Oper.semAt_some

/-- A label's number. -/
def labI (s : List UInt8) : Option Int :=
  match s with
  | [] => none
  | c :: r => if c = 76 then digI r 4 else none
theorem labI_hit (r : List UInt8) : labI (76 :: r) = digI r 4 := by
  simp only [labI, if_true]
theorem labI_miss {s : List UInt8} (h : ¬ s.head? = some 76) : labI s = none := by
  cases s with
  | nil => rfl
  | cons c r =>
    show (if c = 76 then _ else _) = _
    rw [if_neg (fun e => h (by rw [e]; rfl))]
theorem digI_nil (k : Nat) : digI [] k = none := by
  cases h : numI [] with
  | none => unfold digI; rw [h]; simp
  | some n => exact absurd (numI_len h).1 (by simp)
end Go.Proofs.YtdldochhondifaaGreatDoor
