/-
  Texts of the claim AsmWholeSays (ArB): what each proves stands at its theorems.
  Conditions: as the theorems say.
-/
import Derived.Lib.AtoiErrMem
import Derived.Test.YtdldochhondifaaGreatDoorVArR
import Derived.Test.YtdldochhondifaaGreatDoorVAsA
import Derived.Test.YtdldochhondifaaGreatDoorVSht
import Derived.Test.YtdldochhondifaaGreatDoorVAsF
namespace Go.Proofs.YtdldochhondifaaGreatDoor
open Go.RowKit
attribute [local go_sem] Oper.semAt_some

/-- The variables of strconv's two errors are set. -/
def Errs (w : World) : Prop := ∃ e1 e2, (w.cell? ⟨3, 0, none⟩ = some e1 ∧ (e1 = .nilIface ∨ ∃ te pe, e1 = .iface te pe)) ∧ (w.cell? ⟨4, 0, none⟩ = some e2 ∧ (e2 = .nilIface ∨ ∃ te pe, e2 = .iface te pe)) ∧ 5 < w.heap.size
theorem Errs.below {W w : World} {B : Nat} (h : Errs W) (hb : Below B W w) (hB : 5 < B) (hz : B ≤ w.heap.size) : Errs w := by
  obtain ⟨e1, e2, ⟨h1, h1'⟩, ⟨h2, h2'⟩, _⟩ := h
  exact ⟨e1, e2, ⟨(bcell hb (by omega)).trans h1, h1'⟩, ⟨(bcell hb (by omega)).trans h2, h2'⟩, by omega⟩
theorem Errs.own {W w : World} (h : Errs W) (hb : Below W.heap.size W w) : Errs w := h.below hb (by obtain ⟨_, _, _, _, h⟩ := h; exact h) hb.size
/-- What Atoi hands back: the number and no error, or an error. -/
def AtoiPost (s : List UInt8) (e : Ending) : Prop :=
  (∃ v, Lib.atoiAll s = .ok v ∧ I64 v ∧ e = .returned (.tuple #[.int .i64 v, .nilIface])) ∨
  ((∀ v, Lib.atoiAll s ≠ .ok v) ∧ ∃ n t p, I64 n ∧ e = .returned (.tuple #[.int .i64 n, .iface t p]))
theorem Atoi_any (s : List UInt8) (hs : s.length ≤ 281474976710656) (w : World) (he : Errs w) :
    Calls Tryz.prog 66 #[.string (mkS s)] w fun e w' => AtoiPost s e ∧ Below w.heap.size w w' := by
  obtain ⟨e1, e2, ⟨h1, h1'⟩, ⟨h2, h2'⟩, _⟩ := he
  have hz : (mkS s).size ≤ 281474976710656 := by rw [mkS_size]; exact hs
  cases h : Lib.atoiAll s with
  | ok v =>
    refine (Tryz.strconv_Atoi_ok (mkS s) (by omega) v (by rw [mkS_list]; exact h) w).mono ?_
    rintro e w' ⟨rfl, hw⟩
    have hb := Lib.atoiAll_bounds h
    refine ⟨.inl ⟨v, h, ⟨by omega, by omega⟩, rfl⟩, ?_⟩
    rcases hw with rfl | ⟨t, rfl⟩
    · exact Below.refl _ _
    · exact Lib.bytesWorld_below _ _ _
  | «syntax» =>
    refine (Tryz.strconv_Atoi_syntax (mkS s) hz (by rw [mkS_list]; exact h) e1 w h1 h1').mono ?_
    rintro e w' ⟨N, rfl, -, -, hb⟩
    exact ⟨.inr ⟨fun v hv => (by cases h.symm.trans hv), 0, _, _, ⟨by omega, by omega⟩, rfl⟩, hb⟩
  | range =>
    refine (Tryz.strconv_Atoi_range (mkS s) hz (by rw [mkS_list]; exact h) e2 w h2 h2').mono ?_
    rintro e w' ⟨N, rfl, -, -, hb⟩
    have hv := Lib.atoiSat_bounds (mkS s).data.toList
    exact ⟨.inr ⟨fun v hv => (by cases h.symm.trans hv), _, _, _, ⟨by omega, by omega⟩, rfl⟩, hb⟩
theorem numI_none {s : List UInt8} (h : ∀ v, Lib.atoiAll s ≠ .ok v) : numI s = none := by
  unfold numI
  cases ha : Lib.atoiAll s with
  | ok v => exact absurd ha (h v)
  | «syntax» => rfl
  | range => rfl
theorem numI_ok {s : List UInt8} {v : Int} (h : Lib.atoiAll s = .ok v) : numI s = if Lib.itoa v = s then some v else none := by
  unfold numI
  rw [h]
/-- A number and whether it is one. -/
def NumP (r : Option Int) (e : Ending) : Prop := ∃ n ok, I64 n ∧ e = .returned (.tuple #[.int .i64 n, .bool ok]) ∧ r = if ok = true then some n else none
theorem mkS_toList (l : List UInt8) : (mkS l).toList = l := by rw [ByteArray.toList_eq]; exact mkS_list l
theorem str_eq (x y : List UInt8) : ((mkS x).toList == (mkS y).toList) = decide (x = y) := by rw [mkS_toList, mkS_toList, Bool.eq_iff_iff, beq_iff_eq, decide_eq_true_iff]
set_option maxRecDepth 100000 in
theorem numeral_any (s : List UInt8) (hs : s.length ≤ 281474976710656) (w : World) (he : Errs w) (hp : Pow w) :
    Calls Tryz.prog 122 #[.string (mkS s)] w fun e w' => NumP (numI s) e ∧ Below w.heap.size w w' := by
  have HA := Lib.hid (Atoi_any s hs w he)
  go_enter Tryz.func122, Tryz.ntmps122
  go_wp2_with fail
  refine HA.out.mono ?_
  rintro e w' ⟨hpost, hb⟩
  rcases hpost with ⟨v, hv, hvI, rfl⟩ | ⟨hv, n, t, p, hn, rfl⟩
  · have HI := Lib.hid (Itoa_any v hvI w' (hp.own hb))
    go_wp2_with fail
    refine HI.out.mono ?_
    rintro e w'' ⟨rfl, hb2⟩
    go_wp2_with fail
    go_ret2
    rw [str_eq]
    exact ⟨⟨v, _, hvI, rfl, by rw [numI_ok hv]; simp⟩, hb.trans (hb2.mono hb.size)⟩
  · go_wp2_with fail
    go_ret2
    exact ⟨⟨n, false, hn, rfl, by rw [numI_none hv]; rfl⟩, hb⟩
/-- A number that is not negative, of at most so many digits. -/
def digI (s : List UInt8) (k : Nat) : Option Int := if s.length ≤ k then (match numI s with | some n => if 0 ≤ n then some n else none | none => none) else none
set_option maxRecDepth 100000 in
theorem digits_any (s : List UInt8) (k : Nat) (hs : s.length ≤ 281474976710656) (w : World) (he : Errs w) (hp : Pow w) :
    Calls Tryz.prog 58 #[.string (mkS s), .int .i64 k] w fun e w' => NumP (digI s k) e ∧ Below w.heap.size w w' := by
  have HA := Lib.hid (Atoi_any s hs w he)
  have hz : (mkS s).size = s.length := mkS_size s
  go_enter Tryz.func58, Tryz.ntmps58
  go_wp2_with fail
  refine HA.out.mono ?_
  rintro e w' ⟨hpost, hb⟩
  rcases hpost with ⟨v, hv, hvI, rfl⟩ | ⟨hv, n, t, p, hn, rfl⟩
  · have HI := Lib.hid (Itoa_any v hvI w' (hp.own hb))
    by_cases h0 : 0 ≤ v
    · by_cases h1 : s.length ≤ k
      · have hc : ((mkS s).size : Int) ≤ (k : Int) := by omega
        go_wp2_with fail
        refine HI.out.mono ?_
        rintro e w'' ⟨rfl, hb2⟩
        go_wp2_with fail
        go_ret2
        rw [str_eq]
        exact ⟨⟨v, _, hvI, rfl, by unfold digI; rw [if_pos h1, numI_ok hv]; by_cases h2 : Lib.itoa v = s <;> simp [h2, h0]⟩, hb.trans (hb2.mono hb.size)⟩
      · have hc : ¬ ((mkS s).size : Int) ≤ (k : Int) := by omega
        go_wp2_with fail
        go_ret2
        exact ⟨⟨v, false, hvI, rfl, by unfold digI; rw [if_neg h1]; rfl⟩, hb⟩
    · go_wp2_with fail
      go_ret2
      exact ⟨⟨v, false, hvI, rfl, by unfold digI; rw [numI_ok hv]; by_cases h2 : Lib.itoa v = s <;> simp [h2, h0]⟩, hb⟩
  · go_wp2_with fail
    go_ret2
    exact ⟨⟨n, false, hn, rfl, by unfold digI; rw [numI_none hv]; simp⟩, hb⟩
/-- A register's number. -/
def regI (s : List UInt8) : Option Int :=
  match s with
  | [] => none
  | c :: r => if c = 114 then (match numI r with | some n => if 0 ≤ n ∧ n < 16 then some n else none | none => none) else none
theorem regI_hit (r : List UInt8) : regI (114 :: r) = (match numI r with | some n => if 0 ≤ n ∧ n < 16 then some n else none | none => none) := by
  simp only [regI, if_true]
theorem regI_miss {s : List UInt8} (h : ¬ s.head? = some 114) : regI s = none := by
  cases s with
  | nil => rfl
  | cons c r =>
    show (if c = 114 then _ else _) = _
    rw [if_neg (fun e => h (by rw [e]; rfl))]
theorem numI_len {s : List UInt8} {n : Int} (h : numI s = some n) : 1 ≤ s.length ∧ s.length ≤ 20 := by
  obtain ⟨hn, rfl⟩ := numI_some.1 h
  refine ⟨?_, itoa_len hn⟩
  rcases Nat.eq_zero_or_pos (Lib.itoa n).length with h0 | h0
  · exfalso
    have : Lib.itoa n = [] := List.length_eq_zero_iff.1 h0
    unfold Lib.itoa at this
    split at this
    · simp at this
    · exact dec_ne _ this
  · exact h0
theorem dec_two {u : Nat} (h : u < 100) : (Lib.decDigits u).length ≤ 2 := dec_len 2 u (by omega) (by omega)
theorem reg_digits (r : List UInt8) : (match digI r 2 with | some n => if n < 16 then some n else none | none => none) = (match numI r with | some n => if 0 ≤ n ∧ n < 16 then some n else none | none => none) := by
  unfold digI
  cases h : numI r with
  | none => simp
  | some n =>
    obtain ⟨hn, e⟩ := numI_some.1 h
    by_cases h0 : 0 ≤ n
    · by_cases h1 : n < 16
      · have hl : r.length ≤ 2 := by
          rw [← e]
          unfold Lib.itoa
          rw [if_neg (by omega)]
          exact dec_two (by omega)
        simp [hl, h0, h1]
      · by_cases hl : r.length ≤ 2 <;> simp [hl, h0, h1]
    · by_cases hl : r.length ≤ 2 <;> simp [hl, h0]
theorem prefix_one (s : List UInt8) (c : UInt8) : Lib.hasPrefix s [c] = decide (s.head? = some c) ∧ Lib.trimPrefix s [c] = if s.head? = some c then s.tail else s := by
  unfold Lib.trimPrefix Lib.hasPrefix
  cases s with
  | nil => simp
  | cons a r =>
    by_cases h : a = c
    · subst h
      simp
    · have h' : ¬ c = a := fun e => h e.symm
      simp [h, h', List.isPrefixOf]
set_option maxRecDepth 100000 in
theorem register_any (s : List UInt8) (hs : s.length ≤ 281474976710656) (w : World) (he : Errs w) (hp : Pow w) :
    Calls Tryz.prog 64 #[.string (mkS s)] w fun e w' => NumP (regI s) e ∧ Below w.heap.size w w' := by
  have hC := Tryz.strings_CutPrefix (mkS s) ⟨#[114]⟩ w
  rw [mkS_list, show (⟨#[114]⟩ : ByteArray).data.toList = [114] from rfl, (prefix_one s 114).1, (prefix_one s 114).2] at hC
  by_cases h1 : s.head? = some 114
  · obtain ⟨r, rfl⟩ : ∃ r, s = 114 :: r := by
      cases s with
      | nil => simp at h1
      | cons c r =>
        have hc : c = 114 := by simpa using h1
        exact ⟨r, by rw [hc]⟩
    rw [if_pos h1, decide_eq_true h1, List.tail_cons] at hC
    have HC := Lib.hid hC
    have hD := digits_any r 2 (by rw [List.length_cons] at hs; omega) w he hp
    rw [show ((2 : Nat) : Int) = 2 from rfl] at hD
    have HD := Lib.hid hD
    have hr := reg_digits r
    clear hC hD h1
    go_enter Tryz.func64, Tryz.ntmps64
    go_wp2_with fail
    refine HC.out.mono ?_
    rintro e w' ⟨rfl, rfl⟩
    go_wp2_with fail
    refine HD.out.mono ?_
    rintro e w2 ⟨⟨n, ok, hn, rfl, hd⟩, hb⟩
    rw [hd] at hr
    cases ok with
    | false =>
      go_wp2_with fail
      go_ret2
      exact ⟨⟨n, false, hn, rfl, by rw [regI_hit, ← hr]; rfl⟩, hb⟩
    | true =>
      go_wp2_with fail
      go_ret2
      exact ⟨⟨n, decide (n < 16), hn, rfl, by rw [regI_hit, ← hr]; by_cases h2 : n < 16 <;> simp [h2]⟩, hb⟩
  · rw [if_neg h1, decide_eq_false h1] at hC
    have HC := Lib.hid hC
    have hD := digits_any s 2 hs w he hp
    rw [show ((2 : Nat) : Int) = 2 from rfl] at hD
    have HD := Lib.hid hD
    have hr := regI_miss h1
    clear hC hD h1
    go_enter Tryz.func64, Tryz.ntmps64
    go_wp2_with fail
    refine HC.out.mono ?_
    rintro e w' ⟨rfl, rfl⟩
    go_wp2_with fail
    refine HD.out.mono ?_
    rintro e w2 ⟨⟨n, ok, hn, rfl, hd⟩, hb⟩
    go_wp2_with fail
    go_ret2
    exact ⟨⟨n, false, hn, rfl, hr⟩, hb⟩
end Go.Proofs.YtdldochhondifaaGreatDoor
namespace Go.Proofs.YtdldochhondifaaGreatDoor
open Go.RowKit
attribute [local go_sem] Oper.semAt_some

def isDig (c : UInt8) : Prop := 48 ≤ c.toNat ∧ c.toNat ≤ 57
theorem itoa_cases (m : Int) : (m < 0 ∧ Lib.itoa m = 45 :: Lib.decDigits m.natAbs) ∨ (0 ≤ m ∧ Lib.itoa m = Lib.decDigits m.toNat) := by
  unfold Lib.itoa
  by_cases h : m < 0
  · exact .inl ⟨h, if_pos h⟩
  · exact .inr ⟨by omega, if_neg h⟩
theorem dec_19 {u : Nat} (h : u < 10000000000000000000) : (Lib.decDigits u).length ≤ 19 := dec_len 19 u (by omega) (by omega)
/-- What a text spells that is read as a sign and digits. -/
theorem numI_parts {neg : Bool} {t : List UInt8} {n : Int} (hh : neg = false → t.head? ≠ some 45) (hv : decV t ≤ 9223372036854775808 → n = -(decV t : Int)) :
    ∀ m, I64 m → Lib.itoa m = (if neg = true then 45 :: t else t) → m = if neg = true then n else if n = -9223372036854775808 then n else -n := by
  intro m hm e
  rcases itoa_cases m with ⟨h0, e'⟩ | ⟨h0, e'⟩
  · cases neg with
    | true =>
      rw [e', if_pos rfl] at e
      injection e with _ e
      have hd := decV_dec m.natAbs
      rw [e] at hd
      have h1 := hm.1
      rw [if_pos rfl, hv (by omega)]
      omega
    | false =>
      rw [e', if_neg (by simp)] at e
      exact absurd (by rw [← e]; rfl) (hh rfl)
  · cases neg with
    | true =>
      rw [e', if_pos rfl] at e
      have := dec_all m.toNat 45 (by rw [e]; simp)
      exact absurd this.1 (by decide)
    | false =>
      rw [e', if_neg (by simp)] at e
      have hd := decV_dec m.toNat
      rw [e] at hd
      have h2 := hm.2
      have hq := hv (by omega)
      rw [if_neg (by simp)]
      split <;> omega
theorem numI_bad {neg : Bool} {t : List UInt8} (h : t = [] ∨ 19 < t.length ∨ ∃ c ∈ t, ¬ isDig c) (hh : neg = false → t.head? ≠ some 45) : numI (if neg = true then 45 :: t else t) = none := by
  cases hn : numI (if neg = true then 45 :: t else t) with
  | none => rfl
  | some m =>
    exfalso
    obtain ⟨hm, e⟩ := numI_some.1 hn
    have key : ∃ u, u < 10000000000000000000 ∧ t = Lib.decDigits u := by
      have h1 := hm.1
      have h2 := hm.2
      rcases itoa_cases m with ⟨h0, e'⟩ | ⟨h0, e'⟩
      · cases neg with
        | true =>
          rw [e', if_pos rfl] at e
          injection e with _ e
          exact ⟨_, by omega, e.symm⟩
        | false =>
          rw [e', if_neg (by simp)] at e
          exact absurd (by rw [← e]; rfl) (hh rfl)
      · cases neg with
        | true =>
          rw [e', if_pos rfl] at e
          have := dec_all m.toNat 45 (by rw [e]; simp)
          exact absurd this.1 (by decide)
        | false =>
          rw [e', if_neg (by simp)] at e
          exact ⟨_, by omega, e.symm⟩
    obtain ⟨u, hu, rfl⟩ := key
    rcases h with h | h | ⟨c, hc, h⟩
    · exact dec_ne _ h
    · have := dec_19 hu
      omega
    · exact h (dec_all u c hc)
theorem at_mk (l : List UInt8) (k : Nat) (h : k < (mkS l).size) : (mkS l)[k] = l.getD k 0 := by
  have h' : k < l.length := by rw [mkS_size] at h; exact h
  rw [List.getD_eq_getElem?_getD, List.getElem?_eq_getElem h']
  rfl
theorem decV_next {t : List UInt8} {i : Nat} (h : i < t.length) : decV (t.take (i + 1)) = decV (t.take i) * 10 + ((t.getD i 0).toNat - 48) := by
  rw [List.take_add_one, List.getElem?_eq_getElem h, List.getD_eq_getElem?_getD, List.getElem?_eq_getElem h]
  exact decV_snoc _ _
theorem w_i64 (x : Int) : I64 (wrap64 x) := by
  unfold wrap64
  exact ⟨by omega, by omega⟩
theorem dig_next {t : List UInt8} {i : Nat} (h : i < t.length) (hA : ∀ c ∈ t.take i, isDig c) (hd : isDig (t.getD i 0)) : ∀ c ∈ t.take (i + 1), isDig c := by
  intro c hc
  rw [List.take_add_one, List.getElem?_eq_getElem h] at hc
  rcases List.mem_append.1 hc with hc | hc
  · exact hA c hc
  · rw [List.getD_eq_getElem?_getD, List.getElem?_eq_getElem h] at hd
    simp at hc
    subst hc
    exact hd
theorem val_next {t : List UInt8} {i x : Nat} {n : Int} (h : i < t.length) (hV : decV (t.take i) ≤ 9223372036854775808 → n = -(decV (t.take i) : Int)) (hx : (t.getD i 0).toNat = x) (h1 : 48 ≤ x) (h2 : x ≤ 57) :
    decV (t.take (i + 1)) ≤ 9223372036854775808 → wrap64 (wrap64 (10 * n) - ((x : Int) - 48)) = -(decV (t.take (i + 1)) : Int) := by
  rw [decV_next h, hx]
  intro hle
  have := hV (by omega)
  have a1 : wrap64 (10 * n) = 10 * n := IntWalk.wrap64_in _ (by omega)
  rw [a1, IntWalk.wrap64_in _ (by omega)]
  omega
set_option maxRecDepth 100000 in
theorem ReadDigits_any (s : List UInt8) (hs : s.length ≤ 281474976710656) (w : World) :
    Calls Tryz.prog 88 #[.string (mkS s)] w fun e w' => NumP (numI s) e ∧ w = w' := by
  by_cases h45 : s.head? = some 45
  · obtain ⟨t, rfl⟩ : ∃ t, s = 45 :: t := by
      cases s with
      | nil => simp at h45
      | cons c r =>
        have hc : c = 45 := by simpa using h45
        exact ⟨r, by rw [hc]⟩
    have hz : (mkS (45 :: t)).size = t.length + 1 := by rw [mkS_size, List.length_cons]
    have hp : (0 : Int) < ((mkS (45 :: t)).size : Int) := by rw [hz]; omega
    have hl0 : 0 < (mkS (45 :: t)).size := by rw [hz]; omega
    have hx : ((mkS (45 :: t))[0].toNat : Int) = 45 := by rw [at_mk]; rfl
    have hex : (mkS (45 :: t)).extract 1 (t.length + 1) = mkS t := by
      rw [← hz, Lib.extract_from, mkS_list]
      rfl
    have hzt : (mkS t).size = t.length := mkS_size t
    clear h45
    by_cases hlen : t.length < 1 ∨ 19 < t.length
    · have hN := Lib.hid (numI_bad (neg := true) (t := t) (by
        rcases hlen with h | h
        · exact .inl (List.length_eq_zero_iff.1 (by omega))
        · exact .inr (.inl h)) (fun h => by cases h))
      rcases hlen with hlen | hlen
      all_goals
        go_enter Tryz.func88, Tryz.ntmps88
        go_wp2_with fail
        go_ret2
        exact ⟨⟨0, false, ⟨by omega, by omega⟩, rfl, hN.out⟩, rfl⟩
    · have hl1 : 1 ≤ t.length := by omega
      have hl2 : t.length ≤ 19 := by omega
      clear hlen
      go_enter Tryz.func88, Tryz.ntmps88
      go_wp2_with fail
      go_loopg [5, 6] t.length (fun g s5 s6 wx => ∃ (n : Int) (i : Nat), s5 = .int .i64 n ∧ s6 = .int .i64 i ∧ wx = w ∧ i + g = t.length ∧ I64 n ∧ Hid (∀ c ∈ t.take i, isDig c) ∧ Hid (decV (t.take i) ≤ 9223372036854775808 → n = -(decV (t.take i) : Int)))
      case atStart => exact ⟨0, 0, rfl, rfl, rfl, by omega, ⟨by omega, by omega⟩, Lib.hid (fun c hc => by simp at hc), Lib.hid (fun _ => rfl)⟩
      case round =>
        obtain ⟨n, i, rfl, rfl, rfl, hi, hn, hA, hV⟩ := hrel
        by_cases hlt : i < t.length
        · have hlt' : i < (mkS t).size := by omega
          have hq : (mkS t)[i] = t.getD i 0 := at_mk t i hlt'
          obtain ⟨x, hx0⟩ : ∃ x : Nat, ((mkS t)[i]).toNat = x := ⟨_, rfl⟩
          have hx1 : (((mkS t)[i]).toNat : Int) = (x : Int) := by rw [hx0]
          have hx2 : (t.getD i 0).toNat = x := by rw [← hq]; exact hx0
          have hN : ¬ isDig (t.getD i 0) → numI (45 :: t) = none := fun h => numI_bad (neg := true) (t := t) (.inr (.inr ⟨_, List.getElem_mem hlt, by rw [List.getD_eq_getElem?_getD, List.getElem?_eq_getElem hlt] at h; exact h⟩)) (fun h => by cases h)
          have HN := Lib.hid hN
          have HQ := Lib.hid hx2
          clear hq hx0 hx2 hN
          rcases (by omega : ((x : Int) < 48) ∨ (48 ≤ (x : Int) ∧ (x : Int) ≤ 57) ∨ (57 < (x : Int))) with a1 | ⟨a1, a2⟩ | a1
          · go_wp2_with fail
            go_ret2
            exact ⟨⟨0, false, ⟨by omega, by omega⟩, rfl, HN.out (fun h => by unfold isDig at h; rw [HQ.out] at h; omega)⟩, rfl⟩
          · go_wp2_with fail
            go_roundg (gk - 1)
            case measure => omega
            case rel => exact ⟨_, i + 1, rfl, by go_num, rfl, by omega, w_i64 _, Lib.hid (dig_next hlt hA.out (by unfold isDig; rw [HQ.out]; omega)), Lib.hid (val_next hlt hV.out HQ.out (by omega) (by omega))⟩
          · go_wp2_with fail
            go_ret2
            exact ⟨⟨0, false, ⟨by omega, by omega⟩, rfl, HN.out (fun h => by unfold isDig at h; rw [HQ.out] at h; omega)⟩, rfl⟩
        · have hD := Lib.hid (Digits_any n hn wr)
          have hK := numI_parts (neg := true) (t := t) (n := n) (fun h => by cases h) (fun h => by
            have := hV.out
            rw [List.take_of_length_le (by omega)] at this
            exact this h)
          have HF := Lib.hid (numI_of (s := 45 :: t) hn (fun m hm e => (hK m hm e).symm))
          clear hK
          go_wp2_with fail
          refine hD.out.mono ?_
          rintro e w2 ⟨rfl, rfl⟩
          go_wp2_with fail
          go_ret2
          rw [str_eq]
          exact ⟨⟨n, _, hn, rfl, by rw [HF.out]; simp⟩, rfl⟩
  · revert hs h45
    generalize s = t
    intro hs h45
    have hzt : (mkS t).size = t.length := mkS_size t
    have hx45 : ∀ hl0 : 0 < (mkS t).size, (((mkS t)[0].toNat : Int) == 45) = false := by
      intro hl0
      rw [at_mk, beq_eq_false_iff_ne]
      intro e
      refine h45 ?_
      cases t with
      | nil => rw [hzt] at hl0; exact absurd hl0 (by simp)
      | cons c r =>
        have e' : c.toNat = 45 := Int.ofNat.inj (show ((c.toNat : Int) = 45) from e)
        have : c = 45 := UInt8.toNat_inj.1 e'
        rw [this]
        rfl
    have HX := Lib.hid hx45
    clear hx45
    by_cases hlen : t.length < 1 ∨ 19 < t.length
    · have hN := Lib.hid (numI_bad (neg := false) (t := t) (by
        rcases hlen with h | h
        · exact .inl (List.length_eq_zero_iff.1 (by omega))
        · exact .inr (.inl h)) (fun _ => h45))
      rcases hlen with hlen | hlen
      · have hl0 : ¬ 0 < (mkS t).size := by omega
        go_enter Tryz.func88, Tryz.ntmps88
        go_wp2_with fail
        go_ret2
        exact ⟨⟨0, false, ⟨by omega, by omega⟩, rfl, hN.out⟩, rfl⟩
      · have hl0 : 0 < (mkS t).size := by omega
        have hx := HX.out hl0
        go_enter Tryz.func88, Tryz.ntmps88
        go_wp2_with fail
        go_ret2
        exact ⟨⟨0, false, ⟨by omega, by omega⟩, rfl, hN.out⟩, rfl⟩
    · have hl1 : 1 ≤ t.length := by omega
      have hl0 : 0 < (mkS t).size := by omega
      have hx := HX.out hl0
      have hl2 : t.length ≤ 19 := by omega
      clear hlen
      go_enter Tryz.func88, Tryz.ntmps88
      go_wp2_with fail
      go_loopg [5, 6] t.length (fun g s5 s6 wx => ∃ (n : Int) (i : Nat), s5 = .int .i64 n ∧ s6 = .int .i64 i ∧ wx = w ∧ i + g = t.length ∧ I64 n ∧ Hid (∀ c ∈ t.take i, isDig c) ∧ Hid (decV (t.take i) ≤ 9223372036854775808 → n = -(decV (t.take i) : Int)))
      case atStart => exact ⟨0, 0, rfl, rfl, rfl, by omega, ⟨by omega, by omega⟩, Lib.hid (fun c hc => by simp at hc), Lib.hid (fun _ => rfl)⟩
      case round =>
        obtain ⟨n, i, rfl, rfl, rfl, hi, hn, hA, hV⟩ := hrel
        by_cases hlt : i < t.length
        · have hlt' : i < (mkS t).size := by omega
          have hq : (mkS t)[i] = t.getD i 0 := at_mk t i hlt'
          obtain ⟨x, hx0⟩ : ∃ x : Nat, ((mkS t)[i]).toNat = x := ⟨_, rfl⟩
          have hx1 : (((mkS t)[i]).toNat : Int) = (x : Int) := by rw [hx0]
          have hx2 : (t.getD i 0).toNat = x := by rw [← hq]; exact hx0
          have hN : ¬ isDig (t.getD i 0) → numI (t) = none := fun h => numI_bad (neg := false) (t := t) (.inr (.inr ⟨_, List.getElem_mem hlt, by rw [List.getD_eq_getElem?_getD, List.getElem?_eq_getElem hlt] at h; exact h⟩)) (fun _ => h45)
          have HN := Lib.hid hN
          have HQ := Lib.hid hx2
          clear hq hx0 hx2 hN
          rcases (by omega : ((x : Int) < 48) ∨ (48 ≤ (x : Int) ∧ (x : Int) ≤ 57) ∨ (57 < (x : Int))) with a1 | ⟨a1, a2⟩ | a1
          · go_wp2_with fail
            go_ret2
            exact ⟨⟨0, false, ⟨by omega, by omega⟩, rfl, HN.out (fun h => by unfold isDig at h; rw [HQ.out] at h; omega)⟩, rfl⟩
          · go_wp2_with fail
            go_roundg (gk - 1)
            case measure => omega
            case rel => exact ⟨_, i + 1, rfl, by go_num, rfl, by omega, w_i64 _, Lib.hid (dig_next hlt hA.out (by unfold isDig; rw [HQ.out]; omega)), Lib.hid (val_next hlt hV.out HQ.out (by omega) (by omega))⟩
          · go_wp2_with fail
            go_ret2
            exact ⟨⟨0, false, ⟨by omega, by omega⟩, rfl, HN.out (fun h => by unfold isDig at h; rw [HQ.out] at h; omega)⟩, rfl⟩
        · have hD := Lib.hid (Digits_any (wrap64 (-n)) (w_i64 _) wr)
          have hK := numI_parts (neg := false) (t := t) (n := n) (fun _ => h45) (fun h => by
            have := hV.out
            rw [List.take_of_length_le (by omega)] at this
            exact this h)
          have HF := Lib.hid (numI_of (s := t) (w_i64 (-n)) (fun m hm e => by
            rw [hK m hm e, if_neg (by simp)]
            have h1 := hn.1
            have h2 := hn.2
            split
            · rename_i h
              rw [h]
              unfold wrap64
              omega
            · exact IntWalk.wrap64_in _ (by omega)))
          clear hK
          go_wp2_with fail
          refine hD.out.mono ?_
          rintro e w2 ⟨rfl, rfl⟩
          go_wp2_with fail
          go_ret2
          rw [str_eq]
          exact ⟨⟨_, _, w_i64 _, rfl, by rw [HF.out]; simp⟩, rfl⟩
theorem byte_ne {c k : UInt8} (h : c ≠ k) : ((c.toNat : Int) == (k.toNat : Int)) = false := by
  rw [beq_eq_false_iff_ne]
  intro e
  exact h (UInt8.toNat_inj.1 (Int.ofNat.inj e))
theorem tail_mk (c : UInt8) (t : List UInt8) : (mkS (c :: t)).extract 1 (t.length + 1) = mkS t := by
  have hz : (mkS (c :: t)).size = t.length + 1 := by rw [mkS_size, List.length_cons]
  rw [← hz, Lib.extract_from, mkS_list]
  rfl
set_option maxRecDepth 100000 in
theorem readReg_any (s : List UInt8) (hs : s.length ≤ 281474976710656) (w : World) :
    Calls Tryz.prog 72 #[.string (mkS s)] w fun e w' => NumP (regI s) e ∧ w = w' := by
  have hz : (mkS s).size = s.length := mkS_size s
  by_cases h2 : s.length < 2
  · have hN : regI s = none := by
      cases s with
      | nil => rfl
      | cons c r =>
        have hr : r = [] := List.length_eq_zero_iff.1 (by rw [List.length_cons] at h2; omega)
        subst hr
        by_cases hc : c = 114
        · subst hc
          exact regI_hit []
        · exact regI_miss (by simpa using hc)
    have HN := Lib.hid hN
    clear hN
    go_enter Tryz.func72, Tryz.ntmps72
    go_wp2_with fail
    go_ret2
    exact ⟨⟨0, false, ⟨by omega, by omega⟩, rfl, HN.out⟩, rfl⟩
  · have h2' : 2 ≤ s.length := by omega
    cases s with
    | nil => simp at h2
    | cons c t =>
      have hz' : (mkS (c :: t)).size = t.length + 1 := by rw [hz, List.length_cons]
      have hl0 : 0 < (mkS (c :: t)).size := by omega
      have ht1 : 1 ≤ t.length := by rw [List.length_cons] at h2'; omega
      have hq : (mkS (c :: t))[0] = c := by rw [at_mk]; rfl
      clear h2 h2' hz
      by_cases hc : c = 114
      · subst hc
        have hx : ((mkS (114 :: t))[0].toNat : Int) = 114 := by rw [hq]; rfl
        have hex := tail_mk 114 t
        have hD := Lib.hid (ReadDigits_any t (by rw [List.length_cons] at hs; omega) w)
        have HR := Lib.hid (regI_hit t)
        clear hq
        go_enter Tryz.func72, Tryz.ntmps72
        go_wp2_with fail
        refine hD.out.mono ?_
        rintro e w2 ⟨⟨n, ok, hn, rfl, hd⟩, rfl⟩
        have HD := Lib.hid hd
        clear hd
        cases ok with
        | false =>
          go_wp2_with fail
          go_ret2
          exact ⟨⟨n, false, hn, rfl, by rw [HR.out, HD.out]; rfl⟩, rfl⟩
        | true =>
          by_cases h0 : 0 ≤ n
          · go_wp2_with fail
            go_ret2
            exact ⟨⟨n, decide (n < 16), hn, rfl, by rw [HR.out, HD.out]; by_cases h : n < 16 <;> simp [h0, h]⟩, rfl⟩
          · go_wp2_with fail
            go_ret2
            exact ⟨⟨n, false, hn, rfl, by rw [HR.out, HD.out]; simp; omega⟩, rfl⟩
      · have hx : (((mkS (c :: t))[0].toNat : Int) != 114) = true := by
          have h := byte_ne hc
          rw [hq]
          unfold bne
          rw [show (114 : Int) = ((114 : UInt8).toNat : Int) from rfl, h]
          rfl
        have HN := Lib.hid (regI_miss (s := c :: t) (by simpa using hc))
        clear hq
        go_enter Tryz.func72, Tryz.ntmps72
        go_wp2_with fail
        go_ret2
        exact ⟨⟨0, false, ⟨by omega, by omega⟩, rfl, HN.out⟩, rfl⟩
/-- A label's number. -/
def labI (s : List UInt8) : Option Int :=
  match s with
  | [] => none
  | c :: r => if c = 76 then digI r 4 else none
theorem labI_hit (r : List UInt8) : labI (76 :: r) = digI r 4 := by
  simp only [labI, if_true]
theorem labI_miss {s : List UInt8} (h : ¬ s.head? = some 76) : labI s = none := by
  cases s with
  | nil => rfl
  | cons c r =>
    show (if c = 76 then _ else _) = _
    rw [if_neg (fun e => h (by rw [e]; rfl))]
/-- A label as the reference tells it. -/
def labN (s : List UInt8) : Int := (labI s).getD (-1)
theorem digI_nil (k : Nat) : digI [] k = none := by
  cases h : numI [] with
  | none => unfold digI; rw [h]; simp
  | some n => exact absurd (numI_len h).1 (by simp)
set_option maxRecDepth 100000 in
theorem readLabel_any (s : List UInt8) (hs : s.length ≤ 281474976710656) (w : World) :
    Calls Tryz.prog 68 #[.string (mkS s)] w fun e w' => e = .returned (.int .i64 (labN s)) ∧ w = w' := by
  have hz : (mkS s).size = s.length := mkS_size s
  by_cases h2 : s.length < 2 ∨ 5 < s.length
  · have hN : labN s = -1 := by
      cases s with
      | nil => rfl
      | cons c r =>
        unfold labN
        by_cases hc : c = 76
        · subst hc
          rw [labI_hit]
          rcases h2 with h2 | h2
          · have hr : r = [] := List.length_eq_zero_iff.1 (by rw [List.length_cons] at h2; omega)
            subst hr
            rw [digI_nil]
            rfl
          · unfold digI
            rw [if_neg (by rw [List.length_cons] at h2; omega)]
            rfl
        · rw [labI_miss (by simpa using hc)]
          rfl
    have HN := Lib.hid hN
    clear hN
    rcases h2 with h2 | h2
    all_goals
      go_enter Tryz.func68, Tryz.ntmps68
      go_wp2_with fail
      go_ret
      exact ⟨by rw [HN.out]; rfl, rfl⟩
  · have h2' : 2 ≤ s.length := by omega
    have h5' : s.length ≤ 5 := by omega
    cases s with
    | nil => simp at h2'
    | cons c t =>
      have hz' : (mkS (c :: t)).size = t.length + 1 := by rw [hz, List.length_cons]
      have hl0 : 0 < (mkS (c :: t)).size := by omega
      have ht1 : 1 ≤ t.length := by rw [List.length_cons] at h2'; omega
      have ht4 : t.length ≤ 4 := by rw [List.length_cons] at h5'; omega
      have hq : (mkS (c :: t))[0] = c := by rw [at_mk]; rfl
      clear h2 h2' hz h5'
      by_cases hc : c = 76
      · subst hc
        have hx : ((mkS (76 :: t))[0].toNat : Int) = 76 := by rw [hq]; rfl
        have hex := tail_mk 76 t
        have hD := Lib.hid (ReadDigits_any t (by rw [List.length_cons] at hs; omega) w)
        have hR : labN (76 :: t) = ((match numI t with | some n => if 0 ≤ n then some n else none | none => none) : Option Int).getD (-1) := by
          unfold labN
          rw [labI_hit]
          unfold digI
          rw [if_pos ht4]
          all_goals (cases numI t <;> rfl)
        have HR := Lib.hid hR
        clear hq hR
        go_enter Tryz.func68, Tryz.ntmps68
        go_wp2_with fail
        refine hD.out.mono ?_
        rintro e w2 ⟨⟨n, ok, hn, rfl, hd⟩, rfl⟩
        have HD := Lib.hid hd
        clear hd
        cases ok with
        | false =>
          go_wp2_with fail
          go_ret
          exact ⟨by rw [HR.out, HD.out]; rfl, rfl⟩
        | true =>
          by_cases h0 : n < 0
          · go_wp2_with fail
            go_ret
            have hv : labN (76 :: t) = -1 := by rw [HR.out, HD.out]; simp [show ¬ 0 ≤ n by omega]
            exact ⟨by rw [hv]; rfl, rfl⟩
          · go_wp2_with fail
            go_ret
            have hv : labN (76 :: t) = n := by rw [HR.out, HD.out]; simp [show 0 ≤ n by omega]
            exact ⟨by rw [hv]; rfl, rfl⟩
      · have hx : (((mkS (c :: t))[0].toNat : Int) != 76) = true := by
          have h := byte_ne hc
          rw [hq]
          unfold bne
          rw [show (76 : Int) = ((76 : UInt8).toNat : Int) from rfl, h]
          rfl
        have HN := Lib.hid (show labN (c :: t) = -1 from by unfold labN; rw [labI_miss (s := c :: t) (by simpa using hc)]; rfl)
        clear hq
        go_enter Tryz.func68, Tryz.ntmps68
        go_wp2_with fail
        go_ret
        exact ⟨by rw [HN.out]; rfl, rfl⟩
end Go.Proofs.YtdldochhondifaaGreatDoor
