/-
  Texts of the claim AsmWholeSays (ArR): what each proves stands at its theorems.
  Conditions: as the theorems say.
-/
import Derived.Shelf.GgClosure.StringsTrimFunc
import Derived.Lib.TrimUEq
import Derived.Lib.FieldsP
import Derived.Lib.AtoiAllCases
import Derived.Lib.CutLaws
import Derived.Lib.SplitLaws
import Derived.Test.YtdldochhondifaaGreatDoorVAsF
namespace Go.Proofs.YtdldochhondifaaGreatDoor
open Go Go.RowKit Go.Lib

/-- A blank: as a byte, as a rune. -/
def bl (c : UInt8) : Bool := c == 32 || c == 9
def blR (r : Nat) : Bool := r == 32 || r == 9
theorem bl_iff (c : UInt8) : bl c = true ↔ c = 32 ∨ c = 9 := by unfold bl; simp
theorem bl_rune (c : UInt8) : blR c.toNat = bl c := by
  unfold bl blR
  rw [Bool.eq_iff_iff]
  simp only [Bool.or_eq_true, beq_iff_eq, ← UInt8.toNat_inj]
  exact Iff.rfl
theorem bl_small {c : UInt8} (h : bl c = true) : c.toNat < 128 := by
  rcases (bl_iff c).1 h with rfl | rfl <;> decide
theorem blR_big {r : Nat} (h : 128 ≤ r) : blR r = false := by
  unfold blR
  rw [Bool.or_eq_false_iff]
  exact ⟨beq_false_of_ne (by omega), beq_false_of_ne (by omega)⟩
theorem getD_drop0 (l : List UInt8) (p : Nat) (h : p < l.length) : l.drop p = l.getD p 0 :: l.drop (p + 1) := by
  rw [List.drop_eq_getElem_cons h, List.getD_eq_getElem?_getD, List.getElem?_eq_getElem h]
  rfl

set_option maxRecDepth 100000 in
set_option maxHeartbeats 2000000 in
/-- What begins with no ASCII byte is no ASCII rune, and no byte of it is an ASCII one. -/
theorem decodeN_far (n b0 b1 b2 b3 : Nat) (h : 128 ≤ b0) : 128 ≤ (decodeN n b0 b1 b2 b3).1 ∧ (1 < (decodeN n b0 b1 b2 b3).2 → 1 < n ∧ 128 ≤ b1) ∧ (2 < (decodeN n b0 b1 b2 b3).2 → 2 < n ∧ 128 ≤ b2) ∧ (3 < (decodeN n b0 b1 b2 b3).2 → 3 < n ∧ 128 ≤ b3) ∧ (decodeN n b0 b1 b2 b3).2 ≤ 4 := by
  unfold decodeN
  repeat' split
  all_goals first | (exfalso; omega) | (refine ⟨?_, ?_, ?_, ?_, ?_⟩ <;> simp only <;> omega)
theorem decode_far (s : ByteArray) (pos : Nat) (h : 128 ≤ (s.data.toList.getD pos 0).toNat) :
    128 ≤ (Utf8.decode s pos).1 ∧ (pos < s.data.toList.length → pos + (Utf8.decode s pos).2 ≤ s.data.toList.length) ∧ ∀ k, k < (Utf8.decode s pos).2 → 128 ≤ (s.data.toList.getD (pos + k) 0).toNat := by
  rw [decode_N]
  obtain ⟨h0, h1, h2, h3, h4⟩ := decodeN_far (s.data.toList.length - pos) _ (s.data.toList.getD (pos + 1) 0).toNat (s.data.toList.getD (pos + 2) 0).toNat (s.data.toList.getD (pos + 3) 0).toNat h
  refine ⟨h0, fun _ => by omega, fun k hk => ?_⟩
  rcases (by omega : k = 0 ∨ k = 1 ∨ k = 2 ∨ k = 3) with rfl | rfl | rfl | rfl
  · exact h
  · exact (h1 hk).2
  · exact (h2 hk).2
  · exact (h3 hk).2
theorem decode_near (s : ByteArray) (pos : Nat) (h : (s.data.toList.getD pos 0).toNat < 128) : Utf8.decode s pos = ((s.data.toList.getD pos 0).toNat, 1) := by
  rw [decode_N, decodeN_ascii _ _ _ _ _ h]
theorem decode_bl (s : ByteArray) (pos : Nat) : blR (Utf8.decode s pos).1 = bl (s.data.toList.getD pos 0) := by
  by_cases h : (s.data.toList.getD pos 0).toNat < 128
  · rw [decode_near s pos h, bl_rune]
  · rw [blR_big (decode_far s pos (by omega)).1]
    cases hb : bl (s.data.toList.getD pos 0) with
    | false => rfl
    | true => exact absurd (bl_small hb) h

/-- The first byte that is no blank. -/
theorem left_bl (s : ByteArray) : ∀ (f pos : Nat), s.data.toList.length ≤ pos + f → pos ≤ s.data.toList.length →
    idxFuncFrom blR false s f pos = if (s.data.toList.drop pos).dropWhile bl = [] then -1 else ((s.data.toList.length - ((s.data.toList.drop pos).dropWhile bl).length : Nat) : Int)
  | 0, pos, h, hp => by
    have : pos = s.data.toList.length := by omega
    subst this
    rw [List.drop_length]
    rfl
  | f + 1, pos, h, hp => by
    unfold idxFuncFrom
    by_cases hl : pos < s.data.toList.length
    · rw [if_pos (by rw [size_eq]; exact hl), decode_bl, getD_drop0 _ _ hl, List.dropWhile_cons]
      cases hb : bl (s.data.toList.getD pos 0) with
      | true =>
        rw [if_neg (by simp), decode_near s pos (bl_small hb), if_pos rfl]
        exact left_bl s f (pos + 1) (by omega) (by omega)
      | false =>
        rw [if_pos rfl, if_neg (by simp), if_neg (by simp), List.length_cons, List.length_drop]
        congr 1
        omega
    · rw [if_neg (by rw [size_eq]; exact hl), List.drop_eq_nil_of_le (by omega)]
      rfl
theorem drop_while_suffix (p : UInt8 → Bool) (l : List UInt8) : l.drop (l.length - (l.dropWhile p).length) = l.dropWhile p := by
  have h : l.takeWhile p ++ l.dropWhile p = l := List.takeWhile_append_dropWhile
  have hl := congrArg List.length h
  rw [List.length_append] at hl
  have e : l.length - (l.dropWhile p).length = (l.takeWhile p).length := by omega
  rw [e]
  conv => lhs; rw [← h]
  exact List.drop_left' (by rw [h])
theorem trimLeft_bl (s : ByteArray) : (trimLeftF blR s).data.toList = s.data.toList.dropWhile bl := by
  have h := left_bl s s.size 0 (by rw [size_eq]; omega) (by omega)
  rw [List.drop_zero] at h
  unfold trimLeftF idxFunc
  by_cases hn : s.data.toList.dropWhile bl = []
  · rw [if_pos hn] at h
    rw [if_pos h, hn]
  · rw [if_neg hn] at h
    rw [if_neg (by rw [h]; omega), h, extract_data, Int.toNat_natCast, drop_while_suffix, List.take_of_length_le]
    have hd := congrArg List.length (List.takeWhile_append_dropWhile (p := bl) (l := s.data.toList))
    rw [List.length_append] at hd
    rw [size_eq]
    omega

/-- The last byte that is no blank. -/
theorem opens_bl (l : List UInt8) (i : Nat) (hi : 0 < i) (hil : i ≤ l.length) (hsp : blR (decodeLastL (l.take i)).1 = true) : (decodeLastL (l.take i)).2 = 1 ∧ bl (l.getD (i - 1) 0) = true ∧ OpenAt l (i - 1) := by
  rcases last_cases l i hi hil with ⟨ha, hd⟩ | ⟨ha, hd⟩ | ⟨ha, st, hst, hd, hsum⟩
  · rw [hd] at hsp ⊢
    rw [bl_rune] at hsp
    exact ⟨rfl, hsp, .inr (by omega)⟩
  · rw [hd] at hsp
    exact absurd hsp (by decide)
  · exfalso
    have hL : (⟨(l.take i).toArray⟩ : ByteArray).data.toList = l.take i := by simp
    have hdd := decodeL_drop ⟨(l.take i).toArray⟩ st
    rw [hL] at hdd
    rw [hd, hdd, decode_bl, hL, getD_takeU l i st hst] at hsp
    rw [hdd, decode_near _ _ (by rw [hL, getD_takeU l i st hst]; exact bl_small hsp)] at hsum
    obtain rfl : st = i - 1 := by omega
    have := bl_small hsp
    omega
theorem right_bl (s : ByteArray) : ∀ (f i : Nat), i ≤ f → i ≤ s.data.toList.length → OpenAt s.data.toList i →
    s.data.toList.take (if 0 ≤ lastIdxFuncFrom blR false s f i then (lastIdxFuncFrom blR false s f i).toNat + (decodeL (s.data.toList.drop (lastIdxFuncFrom blR false s f i).toNat)).2 else 0) = ((s.data.toList.take i).reverse.dropWhile bl).reverse
  | 0, i, hf, _, _ => by
    obtain rfl : i = 0 := by omega
    simp [lastIdxFuncFrom]
  | f + 1, i, hf, hil, ho => by
    by_cases hi : 0 < i
    · have hlen : (s.data.toList.take i).length = i := by rw [List.length_take]; omega
      have hw := decodeLastL_width (s.data.toList.take i) (by omega)
      rw [hlen] at hw
      have hx : s.data.toList.take i = s.data.toList.take (i - 1) ++ [s.data.toList.getD (i - 1) 0] := by
        conv => lhs; rw [show i = i - 1 + 1 by omega]
        rw [List.take_add_one, List.getD_eq_getElem?_getD, List.getElem?_eq_getElem (by omega)]
        rfl
      simp only [lastIdxFuncFrom, if_pos hi]
      cases hsp : blR (decodeLastL (s.data.toList.take i)).1 with
      | true =>
        obtain ⟨h1, h2, h3⟩ := opens_bl _ i hi hil hsp
        simp only [Bool.true_eq_false, if_false]
        rw [h1, right_bl s f (i - 1) (by omega) (by omega) h3, hx, List.reverse_append]
        rw [show ([s.data.toList.getD (i - 1) 0] : List UInt8).reverse = [s.data.toList.getD (i - 1) 0] from rfl, List.singleton_append, List.dropWhile_cons, if_pos h2]
      | false =>
        have hb : bl (s.data.toList.getD (i - 1) 0) = false := by
          cases hb : bl (s.data.toList.getD (i - 1) 0) with
          | false => rfl
          | true =>
            have ha := bl_small hb
            rcases last_cases s.data.toList i hi hil with ⟨_, hd⟩ | ⟨hc, _⟩ | ⟨hc, _⟩
            · rw [hd, bl_rune, hb] at hsp
              exact absurd hsp (by decide)
            · omega
            · omega
        simp only [if_true]
        rw [if_pos (by omega), Int.toNat_natCast, fw_width _ i hi hil ho, Nat.sub_add_cancel hw.2, hx, List.reverse_append]
        rw [show ([s.data.toList.getD (i - 1) 0] : List UInt8).reverse = [s.data.toList.getD (i - 1) 0] from rfl, List.singleton_append, List.dropWhile_cons, hb]
        simp
    · obtain rfl : i = 0 := by omega
      rw [lastIdxFuncFrom_zero]
      simp
theorem last_lt (s : ByteArray) : ∀ (f i : Nat), i ≤ s.data.toList.length → lastIdxFuncFrom blR false s f i = -1 ∨ (0 ≤ lastIdxFuncFrom blR false s f i ∧ lastIdxFuncFrom blR false s f i < i)
  | 0, _, _ => .inl rfl
  | f + 1, i, hi => by
    unfold lastIdxFuncFrom
    split
    · rename_i h0
      have hw := decodeLastL_width (s.data.toList.take i) (by rw [List.length_take]; omega)
      rw [List.length_take, Nat.min_eq_left hi] at hw
      split
      · exact .inr ⟨by omega, by omega⟩
      · rcases last_lt s f (i - (decodeLastL (s.data.toList.take i)).2) (by omega) with h | h
        · exact .inl h
        · exact .inr ⟨h.1, by omega⟩
    · exact .inl rfl
theorem trimRight_bl (s : ByteArray) : (trimRightF blR s).data.toList = (s.data.toList.reverse.dropWhile bl).reverse := by
  have h := right_bl s s.size s.size (Nat.le_refl _) (by rw [← size_eq]; exact Nat.le_refl _) (.inl (size_eq s))
  rw [List.take_of_length_le (i := s.size) (by rw [← size_eq]; exact Nat.le_refl _)] at h
  rw [← h]
  unfold trimRightF rightEndF lastIdxFunc
  rw [extract_data, List.drop_zero, Nat.sub_zero]
  congr 1
  split
  · rename_i h0
    congr 2
    rcases last_lt s s.size s.size (by rw [← size_eq]; exact Nat.le_refl _) with hm | hlt
    · omega
    · have hx : s.extract (lastIdxFuncFrom blR false s s.size s.size).toNat s.size = ⟨(s.data.toList.drop (lastIdxFuncFrom blR false s s.size s.size).toNat).toArray⟩ := by
        rw [extract_eq, List.take_of_length_le (by rw [List.length_drop, ← size_eq]; exact Nat.le_refl _)]
      have hxs : (⟨(s.data.toList.drop (lastIdxFuncFrom blR false s s.size s.size).toNat).toArray⟩ : ByteArray).size ≠ 0 := by
        rw [size_eq]
        simp only [List.length_drop]
        rw [← size_eq]
        omega
      rw [hx]
      unfold decodeGoB decodeL
      rw [if_neg hxs]
  · rfl
/-- A text without the blanks at both ends. -/
def trimS (l : List UInt8) : List UInt8 := ((l.dropWhile bl).reverse.dropWhile bl).reverse
theorem trim_bl (s : ByteArray) : (trimF blR s).data.toList = trimS s.data.toList := by
  unfold trimF trimS
  rw [trimRight_bl, trimLeft_bl]
/-- The first blank. -/
theorem index_bl (s : ByteArray) : ∀ (f pos : Nat), s.data.toList.length ≤ pos + f → pos ≤ s.data.toList.length →
    idxFuncFrom blR true s f pos = if (s.data.toList.drop pos).dropWhile (fun c => !bl c) = [] then -1 else ((pos + ((s.data.toList.drop pos).takeWhile (fun c => !bl c)).length : Nat) : Int)
  | 0, pos, h, hp => by
    have : pos = s.data.toList.length := by omega
    subst this
    rw [List.drop_length]
    rfl
  | f + 1, pos, h, hp => by
    unfold idxFuncFrom
    by_cases hl : pos < s.data.toList.length
    · rw [if_pos (by rw [size_eq]; exact hl), decode_bl]
      cases hb : bl (s.data.toList.getD pos 0) with
      | true =>
        rw [if_pos rfl, getD_drop0 _ _ hl, List.dropWhile_cons, List.takeWhile_cons, hb]
        simp
      | false =>
        rw [if_neg (by simp)]
        have hw := width_pos s pos
        have hstep : ∀ k, k ≤ (Utf8.decode s pos).2 → pos + k ≤ s.data.toList.length → (s.data.toList.drop pos).dropWhile (fun c => !bl c) = (s.data.toList.drop (pos + k)).dropWhile (fun c => !bl c) ∧ ((s.data.toList.drop pos).takeWhile (fun c => !bl c)).length = k + ((s.data.toList.drop (pos + k)).takeWhile (fun c => !bl c)).length := by
          intro k
          induction k with
          | zero => intro _ _; simp
          | succ k ih =>
            intro hk hk2
            obtain ⟨i1, i2⟩ := ih (by omega) (by omega)
            have hbk : bl (s.data.toList.getD (pos + k) 0) = false := by
              by_cases hz : k = 0
              · subst hz; exact hb
              · by_cases hn : (s.data.toList.getD pos 0).toNat < 128
                · rw [decode_near s pos hn] at hk
                  simp only at hk
                  omega
                · have := (decode_far s pos (by omega)).2.2 k (by omega)
                  cases hbb : bl (s.data.toList.getD (pos + k) 0) with
                  | false => rfl
                  | true => have := bl_small hbb; omega
            rw [i1, i2, getD_drop0 _ _ (by omega : pos + k < s.data.toList.length), List.dropWhile_cons, List.takeWhile_cons, hbk]
            refine ⟨by simp [Nat.add_assoc], ?_⟩
            simp only [Bool.not_false, if_true, List.length_cons]
            rw [show pos + (k + 1) = pos + k + 1 by omega]
            omega
        have hin : pos + (Utf8.decode s pos).2 ≤ s.data.toList.length := by
          by_cases hn : (s.data.toList.getD pos 0).toNat < 128
          · rw [decode_near s pos hn]
            simp only
            omega
          · exact (decode_far s pos (by omega)).2.1 hl
        obtain ⟨h1, h2⟩ := hstep _ (Nat.le_refl _) hin
        rw [index_bl s f _ (by omega) hin, h1, h2, Nat.add_assoc]
    · rw [if_neg (by rw [size_eq]; exact hl), List.drop_eq_nil_of_le (by omega)]
      rfl
end Go.Proofs.YtdldochhondifaaGreatDoor
namespace Go.Proofs.YtdldochhondifaaGreatDoor
open Go Go.RowKit Go.Lib

theorem digit_nat {u : Nat} (h : u < 10) : (UInt8.ofNat (48 + u)).toNat = 48 + u := by
  rw [UInt8.toNat_ofNat']
  omega
theorem dec_all : ∀ (u : Nat), ∀ c ∈ decDigits u, 48 ≤ c.toNat ∧ c.toNat ≤ 57 := by
  intro u
  induction u using Nat.strongRecOn with
  | _ u ih =>
    intro c hc
    rw [decDigits] at hc
    split at hc
    · rename_i h
      rw [List.mem_singleton] at hc
      subst hc
      rw [digit_nat h]
      omega
    · rcases List.mem_append.1 hc with h | h
      · exact ih (u / 10) (by omega) c h
      · rw [List.mem_singleton] at h
        subst h
        rw [digit_nat (by omega)]
        omega
theorem dec_ne (u : Nat) : decDigits u ≠ [] := by
  rw [decDigits]
  split <;> simp
theorem parse_one {acc d : Nat} (hd : d < 10) (ha : acc * 10 + d < 18446744073709551616) (r : List UInt8) : parseUint10 acc (UInt8.ofNat (48 + d) :: r) = parseUint10 (acc * 10 + d) r := by
  rw [parseUint10, digit_nat hd, if_pos (by omega), if_neg (by omega), if_neg (by omega), show 48 + d - 48 = d by omega]
theorem parse_dec : ∀ (u : Nat), u < 18446744073709551616 → ∀ r, parseUint10 0 (decDigits u ++ r) = parseUint10 u r := by
  intro u
  induction u using Nat.strongRecOn with
  | _ u ih =>
    intro hu r
    rw [decDigits]
    split
    · rename_i h
      rw [List.singleton_append, parse_one h (by omega)]
      simp
    · rw [List.append_assoc, List.singleton_append, ih (u / 10) (by omega) (by omega), parse_one (by omega) (by omega)]
      congr 1
      omega
theorem mag_dec {u : Nat} (hu : u < 18446744073709551616) : parseMag (decDigits u) = .ok u := by
  unfold parseMag
  rw [if_neg (dec_ne u)]
  have := parse_dec u hu []
  rw [List.append_nil] at this
  rw [this]
  rfl
theorem atoi_itoa {n : Int} (h : I64 n) : atoiAll (itoa n) = .ok n := by
  have h1 := h.1
  have h2 := h.2
  unfold itoa
  split
  · rename_i hn
    rw [atoiAll_minus, mag_dec (by omega)]
    unfold signed
    simp only
    rw [if_neg (by omega)]
    congr 1
    omega
  · rename_i hn
    have hm := mag_dec (u := n.toNat) (by omega)
    cases hd : decDigits n.toNat with
    | nil => exact absurd hd (dec_ne _)
    | cons c r =>
      have hc := dec_all n.toNat c (by rw [hd]; simp)
      rw [hd] at hm
      rw [atoiAll_plain c r (by omega) (by omega), hm]
      unfold signless
      simp only
      rw [if_neg (by omega)]
      congr 1
      omega
/-- The number that a text spells as Itoa does. -/
def numI (s : List UInt8) : Option Int :=
  match atoiAll s with
  | .ok v => if itoa v = s then some v else none
  | _ => none
theorem numI_some {s : List UInt8} {n : Int} : numI s = some n ↔ I64 n ∧ itoa n = s := by
  unfold numI
  constructor
  · intro h
    cases ha : atoiAll s with
    | ok v =>
      rw [ha] at h
      simp only at h
      split at h
      · rename_i he
        injection h with h
        subst h
        have hb := atoiAll_bounds ha
        exact ⟨⟨by omega, by omega⟩, he⟩
      · cases h
    | «syntax» => rw [ha] at h; cases h
    | range => rw [ha] at h; cases h
  · rintro ⟨h, rfl⟩
    rw [atoi_itoa h]
    simp
/-- A reading that finds every number, and is held against the text, is numI. -/
theorem numI_of {s : List UInt8} {r : Int} (hr : I64 r) (h : ∀ m, I64 m → itoa m = s → r = m) : numI s = if itoa r = s then some r else none := by
  split
  · rename_i he
    exact numI_some.2 ⟨hr, he⟩
  · rename_i he
    cases hn : numI s with
    | none => rfl
    | some m =>
      obtain ⟨hm, e⟩ := numI_some.1 hn
      have := h m hm e
      subst this
      exact absurd e he
/-- What digits are worth. -/
def decV (l : List UInt8) : Nat := l.foldl (fun v c => v * 10 + (c.toNat - 48)) 0
theorem decV_snoc (l : List UInt8) (c : UInt8) : decV (l ++ [c]) = decV l * 10 + (c.toNat - 48) := by
  unfold decV
  rw [List.foldl_append]
  rfl
theorem decV_dec : ∀ u, decV (decDigits u) = u := by
  intro u
  induction u using Nat.strongRecOn with
  | _ u ih =>
    rw [decDigits]
    split
    · rename_i h
      show 0 * 10 + ((UInt8.ofNat (48 + u)).toNat - 48) = u
      rw [digit_nat h]
      omega
    · rw [decV_snoc, ih (u / 10) (by omega), digit_nat (by omega)]
      omega
end Go.Proofs.YtdldochhondifaaGreatDoor
namespace Go.Proofs.YtdldochhondifaaGreatDoor
open Go Go.RowKit Go.Lib

/-- A text parted at each byte c; cur stands ahead of it. -/
def splitC (c : UInt8) : List UInt8 → List UInt8 → List (List UInt8)
  | cur, [] => [cur]
  | cur, a :: l => if a = c then cur :: splitC c [] l else splitC c (cur ++ [a]) l
/-- What stands ahead of a remark. -/
def cutS (l : List UInt8) : List UInt8 := l.takeWhile (fun b => !(b == 59))
def cleanS (l : List UInt8) : List UInt8 := trimS (cutS l)
def linesL (t : List UInt8) : List (List UInt8) := (splitC 10 [] t).map cleanS
def cutsL (s : List UInt8) : List (List UInt8) := if s = [] then [] else (splitC 44 [] s).map trimS

theorem splitC_none (c : UInt8) : ∀ (l cur : List UInt8), (∀ b ∈ l, b ≠ c) → splitC c cur l = [cur ++ l]
  | [], cur, _ => by simp [splitC]
  | a :: l, cur, h => by
    rw [splitC, if_neg (h a (by simp)), splitC_none c l _ (fun b hb => h b (by simp [hb]))]
    simp
theorem splitC_hit (c : UInt8) : ∀ (l cur r : List UInt8), (∀ b ∈ l, b ≠ c) → splitC c cur (l ++ c :: r) = (cur ++ l) :: splitC c [] r
  | [], cur, r, _ => by simp [splitC]
  | a :: l, cur, r, h => by
    rw [List.cons_append, splitC, if_neg (h a (by simp)), splitC_hit c l _ r (fun b hb => h b (by simp [hb]))]
    simp
theorem splitC_len (c : UInt8) : ∀ (l cur : List UInt8), (splitC c cur l).length ≤ l.length + 1
  | [], _ => by simp [splitC]
  | a :: l, cur => by
    rw [splitC]
    split
    · rw [List.length_cons, List.length_cons]
      have := splitC_len c l []
      omega
    · have := splitC_len c l (cur ++ [a])
      rw [List.length_cons]
      omega
/-- No piece holds what parts them. -/
theorem splitC_free (c : UInt8) : ∀ (l cur : List UInt8), (∀ b ∈ cur, b ≠ c) → ∀ x ∈ splitC c cur l, ∀ b ∈ x, b ≠ c
  | [], cur, h, x, hx => by
    rw [splitC, List.mem_singleton] at hx
    subst hx
    exact h
  | a :: l, cur, h, x, hx => by
    rw [splitC] at hx
    split at hx
    · rcases List.mem_cons.1 hx with rfl | hx
      · exact h
      · exact splitC_free c l [] (by simp) x hx
    · rename_i ha
      refine splitC_free c l (cur ++ [a]) (fun b hb => ?_) x hx
      rcases List.mem_append.1 hb with hb | hb
      · exact h b hb
      · rw [List.mem_singleton] at hb
        subst hb
        exact ha
theorem splitC_size (c : UInt8) : ∀ (l cur : List UInt8), ∀ x ∈ splitC c cur l, x.length ≤ cur.length + l.length
  | [], cur, x, hx => by
    rw [splitC, List.mem_singleton] at hx
    subst hx
    simp
  | a :: l, cur, x, hx => by
    rw [splitC] at hx
    split at hx
    · rcases List.mem_cons.1 hx with rfl | hx
      · omega
      · have := splitC_size c l [] x hx
        rw [List.length_cons]
        simp at this
        omega
    · have := splitC_size c l (cur ++ [a]) x hx
      rw [List.length_append] at this
      rw [List.length_cons]
      simp at this
      omega

/-- The place of the first byte c. -/
theorem index_one (c : UInt8) : ∀ (l : List UInt8), (index l [c] = -1 ∧ ∀ b ∈ l, b ≠ c) ∨ ∃ a r, l = a ++ c :: r ∧ (∀ b ∈ a, b ≠ c) ∧ index l [c] = a.length
  | [] => .inl ⟨rfl, by simp⟩
  | b :: l => by
    by_cases h : b = c
    · subst h
      refine .inr ⟨[], l, rfl, by simp, ?_⟩
      unfold index
      simp [List.isPrefixOf]
    · have hp : ([c] : List UInt8).isPrefixOf (b :: l) = false := by
        simp only [List.isPrefixOf, Bool.and_true]
        exact beq_false_of_ne (fun e => h e.symm)
      rcases index_one c l with ⟨h1, h2⟩ | ⟨a, r, h1, h2, h3⟩
      · refine .inl ⟨by unfold index; rw [hp, h1]; rfl, fun x hx => ?_⟩
        rcases List.mem_cons.1 hx with rfl | hx
        · exact h
        · exact h2 x hx
      · refine .inr ⟨b :: a, r, by rw [h1]; rfl, fun x hx => ?_, ?_⟩
        · rcases List.mem_cons.1 hx with rfl | hx
          · exact h
          · exact h2 x hx
        · unfold index
          rw [hp, h3]
          have : ((a.length : Int) == -1) = false := by rw [beq_eq_false_iff_ne]; omega
          simp [this]
theorem take_until {c : UInt8} {a r : List UInt8} (h : ∀ b ∈ a, b ≠ c) : (a ++ c :: r).takeWhile (fun b => !(b == c)) = a := by
  rw [List.takeWhile_append_of_pos (fun b hb => by simpa using h b hb), List.takeWhile_cons]
  simp
theorem take_none {c : UInt8} {a : List UInt8} (h : ∀ b ∈ a, b ≠ c) : a.takeWhile (fun b => !(b == c)) = a := by
  have := List.takeWhile_append_of_pos (l₁ := a) (l₂ := []) (p := fun b => !(b == c)) (fun b hb => by simpa using h b hb)
  simpa using this
/-- What strings.Cut(s, ";") leaves ahead. -/
theorem cut_remark (l : List UInt8) : (cut l [59]).1 = cutS l := by
  unfold cut cutS
  rcases index_one 59 l with ⟨h1, h2⟩ | ⟨a, r, h1, h2, h3⟩
  · rw [h1, if_neg (by omega), take_none h2]
  · rw [h3, if_pos (by omega), h1, take_until h2]
    simp
/-- strings.Split(s, ",") in the bytes. -/
theorem split_one (c : UInt8) : ∀ (k : Nat) (s : List UInt8), s.count c ≤ k → splitK [c] 0 k s = splitC c [] s
  | 0, s, h => by
    rw [splitK, splitC_none c s [] (fun b hb e => by
      subst e
      have := List.count_pos_iff.2 hb
      omega)]
    rfl
  | k + 1, s, h => by
    rw [splitK]
    rcases index_one c s with ⟨h1, h2⟩ | ⟨a, r, h1, h2, h3⟩
    · rw [h1, if_pos (by decide), splitC_none c s [] h2]
      rfl
    · rw [h3, if_neg (by simp), Int.toNat_natCast]
      subst h1
      rw [splitC_hit c a [] r h2, Nat.add_zero, List.nil_append, List.take_left' rfl, show a.length + [c].length = (a ++ [c]).length by simp, show a ++ c :: r = (a ++ [c]) ++ r by simp, List.drop_left' rfl, split_one c k r]
      rw [List.count_append, List.count_cons] at h
      simp at h
      omega
end Go.Proofs.YtdldochhondifaaGreatDoor
