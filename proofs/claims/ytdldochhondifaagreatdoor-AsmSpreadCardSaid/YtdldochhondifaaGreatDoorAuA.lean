/-
  PLAIN: a text that is written reads back, whatever its blanks, empty lines and remarks.
  Conditions: none.
-/
import Derived.Test.YtdldochhondifaaGreatDoorArS
import Derived.Test.YtdldochhondifaaGreatDoorKtP
namespace Go.Proofs.YtdldochhondifaaGreatDoor
open Go Go.RowKit Go.Lib

/-! Bytes of words, blanks. -/
def Wd (c : UInt8) : Prop := c ≠ 32 ∧ c ≠ 9 ∧ c ≠ 10 ∧ c ≠ 44 ∧ c ≠ 58 ∧ c ≠ 59
def WdL (s : List UInt8) : Prop := s ≠ [] ∧ ∀ c ∈ s, Wd c
def Bls (s : List UInt8) : Prop := ∀ b ∈ s, bl b = true
theorem Wd.nb {c : UInt8} (h : Wd c) : bl c = false := by
  cases hb : bl c with
  | false => rfl
  | true =>
    rcases (bl_iff c).1 hb with e | e
    · exact absurd e h.1
    · exact absurd e h.2.1
theorem WdL.head {s : List UInt8} (h : WdL s) : ∀ c, s.head? = some c → bl c = false := fun c hc => (h.2 c (List.mem_of_mem_head? (by rw [hc]; rfl))).nb
theorem WdL.last {s : List UInt8} (h : WdL s) : ∀ c, s.getLast? = some c → Wd c := fun c hc => h.2 c (List.mem_of_getLast? hc)
theorem digit_wd {c : UInt8} (h : 48 ≤ c.toNat ∧ c.toNat ≤ 57) : Wd c := by
  refine ⟨?_, ?_, ?_, ?_, ?_, ?_⟩ <;> (intro e; subst e; revert h; decide)
theorem itoa_wd (n : Int) : WdL (itoa n) := by
  unfold itoa
  split
  · refine ⟨by simp, fun c hc => ?_⟩
    rcases List.mem_cons.1 hc with rfl | hc
    · exact ⟨by decide, by decide, by decide, by decide, by decide, by decide⟩
    · exact digit_wd (dec_all _ c hc)
  · exact ⟨dec_ne _, fun c hc => digit_wd (dec_all _ c hc)⟩
theorem cons_wd {c : UInt8} {s : List UInt8} (hc : Wd c) (h : ∀ x ∈ s, Wd x) : WdL (c :: s) := ⟨by simp, fun x hx => by
  rcases List.mem_cons.1 hx with rfl | hx
  · exact hc
  · exact h x hx⟩
theorem name_wd {s : ByteArray} (h : nameS s = true) : WdL s.data.toList := by
  unfold nameS at h
  rw [Bool.and_eq_true, decide_eq_true_eq, List.all_eq_true] at h
  obtain ⟨⟨h1, _⟩, h2⟩ := h
  have hl : s.data.toList.length = s.size := (size_eq s).symm
  refine ⟨by intro e; rw [e, List.length_nil] at hl; omega, fun c hc => ?_⟩
  obtain ⟨k, hk⟩ := List.mem_iff_getElem?.1 hc
  have hk' : k < s.data.toList.length := (List.getElem?_eq_some_iff.1 hk).1
  have h3 := h2 k (by rw [List.mem_range]; omega)
  rw [List.getD_eq_getElem?_getD, hk] at h3
  unfold okB at h3
  rw [decide_eq_true_eq] at h3
  simp only [Option.getD_some] at h3
  refine ⟨fun e => ?_, fun e => ?_, fun e => ?_, fun e => ?_, fun e => ?_, fun e => ?_⟩
  · have e1 : (c.toNat : Int) = 32 := by rw [e]; rfl
    omega
  · have e1 : (c.toNat : Int) = 9 := by rw [e]; rfl
    omega
  · have e1 : (c.toNat : Int) = 10 := by rw [e]; rfl
    omega
  · have e1 : (c.toNat : Int) = 44 := by rw [e]; rfl
    omega
  · have e1 : (c.toNat : Int) = 58 := by rw [e]; rfl
    omega
  · have e1 : (c.toNat : Int) = 59 := by rw [e]; rfl
    omega
theorem head_app {a b : List UInt8} (h : a ≠ []) : (a ++ b).head? = a.head? := by
  cases a with
  | nil => exact absurd rfl h
  | cons x a => rfl

/-! How a text may be spread. -/
def SpreadB (c : UInt8) (w : List UInt8) : Prop :=
  if c = 32 then w ≠ [] ∧ Bls w
  else if c = 44 then ∃ x y, w = x ++ 44 :: y ∧ Bls x ∧ Bls y
  else if c = 10 then w = [10] ∨ w = [32, 59, 32, 120, 44, 32, 121, 58, 10] ∨ w = [10, 10] ∨ w = [9, 10, 59, 10]
  else w = [c]
def Spread : List UInt8 → List UInt8 → Prop
  | [], w => w = []
  | c :: s, w => ∃ u v, w = u ++ v ∧ SpreadB c u ∧ Spread s v
theorem SpreadB.self (c : UInt8) : SpreadB c [c] := by
  unfold SpreadB
  split
  · rename_i h
    subst h
    exact ⟨by simp, fun b hb => by rw [List.mem_singleton] at hb; subst hb; rfl⟩
  split
  · rename_i h
    subst h
    exact ⟨[], [], rfl, fun b hb => by simp at hb, fun b hb => by simp at hb⟩
  split
  · rename_i h
    subst h
    exact .inl rfl
  · rfl
theorem Spread.self : ∀ s, Spread s s
  | [] => rfl
  | c :: s => ⟨[c], s, rfl, SpreadB.self c, Spread.self s⟩
theorem Spread.parts : ∀ {a b w : List UInt8}, Spread (a ++ b) w → ∃ u v, w = u ++ v ∧ Spread a u ∧ Spread b v
  | [], b, w, h => ⟨[], w, rfl, rfl, h⟩
  | c :: a, b, w, h => by
    obtain ⟨u, v, rfl, h1, h2⟩ := h
    obtain ⟨x, y, rfl, h3, h4⟩ := Spread.parts h2
    exact ⟨u ++ x, y, by simp, ⟨u, x, rfl, h1, h3⟩, h4⟩
theorem Spread.join : ∀ {a b u v : List UInt8}, Spread a u → Spread b v → Spread (a ++ b) (u ++ v)
  | [], b, u, v, h, h' => by cases h; exact h'
  | c :: a, b, u, v, h, h' => by
    obtain ⟨x, y, rfl, h1, h2⟩ := h
    exact ⟨x, y ++ v, by simp, h1, h2.join h'⟩
theorem Spread.plain : ∀ {s w : List UInt8}, (∀ c ∈ s, c ≠ 32 ∧ c ≠ 44 ∧ c ≠ 10) → Spread s w → w = s
  | [], w, _, h => h
  | c :: s, w, hs, h => by
    obtain ⟨u, v, rfl, h1, h2⟩ := h
    obtain ⟨e1, e2, e3⟩ := hs c (by simp)
    unfold SpreadB at h1
    rw [if_neg e1, if_neg e2, if_neg e3] at h1
    subst h1
    rw [Spread.plain (fun x hx => hs x (by simp [hx])) h2]
    rfl
theorem Spread.one {c : UInt8} {w : List UInt8} (h : Spread [c] w) : SpreadB c w := by
  obtain ⟨u, v, rfl, h1, h2⟩ := h
  cases h2
  rwa [List.append_nil]
theorem WdL.spread {s w : List UInt8} (h : WdL s) (hw : Spread s w) : w = s := hw.plain fun c hc => ⟨(h.2 c hc).1, (h.2 c hc).2.2.2.1, (h.2 c hc).2.2.1⟩

/-! Lines. -/
theorem drop_bls {u v : List UInt8} (h : Bls u) : (u ++ v).dropWhile bl = v.dropWhile bl := by
  induction u with
  | nil => rfl
  | cons a u ih =>
    rw [List.cons_append, List.dropWhile_cons, h a (by simp), if_pos rfl]
    exact ih (fun b hb => h b (by simp [hb]))
theorem Bls.rev {u : List UInt8} (h : Bls u) : Bls u.reverse := fun b hb => h b (by simpa using hb)
theorem Bls.app {u v : List UInt8} (h : Bls u) (h' : Bls v) : Bls (u ++ v) := fun b hb => (List.mem_append.1 hb).elim (h b) (h' b)
theorem Bls.ne {u : List UInt8} (h : Bls u) {c : UInt8} (hc : bl c = false) : ∀ b ∈ u, b ≠ c := fun b hb e => by
  subst e
  rw [h b hb] at hc
  cases hc
/-- What stands between blanks. -/
def Core (s : List UInt8) : Prop := s ≠ [] ∧ (∀ c, s.head? = some c → bl c = false) ∧ (∀ c, s.getLast? = some c → bl c = false)
theorem trim_core {u v s : List UInt8} (hu : Bls u) (hv : Bls v) (hs : Core s) : trimS (u ++ s ++ v) = s := by
  obtain ⟨h0, h1, h2⟩ := hs
  unfold trimS
  rw [List.append_assoc, drop_bls hu]
  have : (s ++ v).dropWhile bl = s ++ v := drop_id fun c hc => by
    rw [head_app h0] at hc
    exact h1 c hc
  rw [this, List.reverse_append, drop_bls hv.rev, drop_id (fun c hc => by rw [List.head?_reverse] at hc; exact h2 c hc), List.reverse_reverse]
theorem WdL.core {s : List UInt8} (h : WdL s) : Core s := ⟨h.1, h.head, fun c hc => (h.last c hc).nb⟩
theorem lines_hit {x r : List UInt8} (h : ∀ b ∈ x, b ≠ 10) : linesL (x ++ 10 :: r) = cleanS x :: linesL r := by
  unfold linesL
  rw [splitC_hit 10 x [] r h]
  rfl
/-- The lines of a text that ends a line, told line by line. -/
def Lines (u : List UInt8) (ls : List (List UInt8)) : Prop := ∀ r, linesL (u ++ r) = ls ++ linesL r
theorem Lines.nil : Lines [] [] := fun _ => rfl
theorem Lines.app {u v : List UInt8} {a b : List (List UInt8)} (h : Lines u a) (h' : Lines v b) : Lines (u ++ v) (a ++ b) := fun r => by
  rw [List.append_assoc, h, h', List.append_assoc]
theorem clean_core {u v s : List UInt8} (hu : Bls u) (hv : Bls v) (hs : Core s) (h59 : ∀ b ∈ s, b ≠ 59) : cleanS (u ++ s ++ v) = s := by
  unfold cleanS
  rw [cut_id, trim_core hu hv hs]
  intro b hb
  rcases List.mem_append.1 hb with hb | hb
  · rcases List.mem_append.1 hb with hb | hb
    · exact hu.ne rfl b hb
    · exact h59 b hb
  · exact hv.ne rfl b hb
theorem clean_remark {u v s r : List UInt8} (hu : Bls u) (hv : Bls v) (hs : Core s) (h59 : ∀ b ∈ s, b ≠ 59) : cleanS (u ++ s ++ v ++ 59 :: r) = s := by
  have hno : ∀ b ∈ u ++ s ++ v, b ≠ 59 := by
    intro b hb
    rcases List.mem_append.1 hb with hb | hb
    · rcases List.mem_append.1 hb with hb | hb
      · exact hu.ne rfl b hb
      · exact h59 b hb
    · exact hv.ne rfl b hb
  unfold cleanS cutS
  rw [take_until hno, trim_core hu hv hs]
/-- A line in whatever spread: itself, and an empty one perhaps. -/
theorem line_lines {u s w : List UInt8} (hu : Bls u) (hs : LineOk s) (hw : SpreadB 10 w) : ∃ k, Lines (u ++ s ++ w) (s :: List.replicate k []) := by
  obtain ⟨h0, h1, h2, h10, h59⟩ := hs
  have hc : Core s := ⟨h0, h1, h2⟩
  have b0 : Bls [] := fun b hb => by simp at hb
  have b9 : Bls [9] := fun b hb => by rw [List.mem_singleton] at hb; subst hb; rfl
  have b32 : Bls [32] := fun b hb => by rw [List.mem_singleton] at hb; subst hb; rfl
  have n10 : ∀ v : List UInt8, (∀ b ∈ v, b ≠ 10) → ∀ b ∈ u ++ s ++ v, b ≠ 10 := fun v hv b hb => by
    rcases List.mem_append.1 hb with hb | hb
    · rcases List.mem_append.1 hb with hb | hb
      · exact hu.ne rfl b hb
      · exact h10 b hb
    · exact hv b hb
  unfold SpreadB at hw
  rw [if_neg (by decide), if_neg (by decide), if_pos rfl] at hw
  rcases hw with rfl | rfl | rfl | rfl
  · refine ⟨0, fun r => ?_⟩
    rw [show u ++ s ++ [10] ++ r = (u ++ s ++ []) ++ 10 :: r by simp, lines_hit (n10 [] (by simp)), clean_core hu b0 hc h59]
    rfl
  · refine ⟨0, fun r => ?_⟩
    rw [show u ++ s ++ [32, 59, 32, 120, 44, 32, 121, 58, 10] ++ r = (u ++ s ++ [32, 59, 32, 120, 44, 32, 121, 58]) ++ 10 :: r by simp, lines_hit (n10 _ (by decide)),
      show u ++ s ++ [32, 59, 32, 120, 44, 32, 121, 58] = u ++ s ++ [32] ++ 59 :: [32, 120, 44, 32, 121, 58] by simp, clean_remark hu b32 hc h59]
    rfl
  · refine ⟨1, fun r => ?_⟩
    rw [show u ++ s ++ [10, 10] ++ r = (u ++ s ++ []) ++ 10 :: ([] ++ 10 :: r) by simp, lines_hit (n10 [] (by simp)), clean_core hu b0 hc h59, lines_hit (by simp)]
    rfl
  · refine ⟨1, fun r => ?_⟩
    rw [show u ++ s ++ [9, 10, 59, 10] ++ r = (u ++ s ++ [9]) ++ 10 :: ([59] ++ 10 :: r) by simp, lines_hit (n10 [9] (by decide)), clean_core hu b9 hc h59, lines_hit (by decide)]
    rfl

/-! The parts of a line. -/
theorem split_cur (c : UInt8) : ∀ (b cur l : List UInt8), (∀ x ∈ b, x ≠ c) → splitC c cur (b ++ l) = splitC c (cur ++ b) l
  | [], cur, l, _ => by simp
  | a :: b, cur, l, h => by
    rw [List.cons_append, splitC, if_neg (h a (by simp)), split_cur c b _ l (fun x hx => h x (by simp [hx]))]
    simp
theorem joined_cons (x y : List UInt8) (r : List (List UInt8)) (sep : List UInt8) : join (x :: y :: r) sep = x ++ (sep ++ join (y :: r) sep) := by
  rw [join_cons, join_cons]
  unfold joinTail
  rw [List.map_cons, List.flatten_cons, List.append_assoc]
theorem bl_ne {c : UInt8} (h : bl c = true) : c ≠ 44 ∧ c ≠ 10 ∧ c ≠ 58 ∧ c ≠ 59 := by
  rcases (bl_iff c).1 h with rfl | rfl <;> decide
/-- Parts in whatever spread. -/
theorem join_cuts : ∀ (ps : List (List UInt8)), ps ≠ [] → (∀ p ∈ ps, WdL p) → ∀ (J cur : List UInt8), Spread (join ps [44, 32]) J → Bls cur →
    (splitC 44 cur J).map trimS = ps ∧ J ≠ [] ∧ (∀ c, J.head? = some c → Wd c) ∧ (∀ c, J.getLast? = some c → Wd c) ∧ ∀ b ∈ J, b ≠ 10 ∧ b ≠ 59
  | [], h, _, _, _, _, _ => absurd rfl h
  | [p], _, hp, J, cur, hJ, hc => by
    rw [join_one] at hJ
    have hw := hp p (by simp)
    obtain rfl := hw.spread hJ
    refine ⟨?_, hw.1, fun c h => hw.2 c (List.mem_of_mem_head? (by rw [h]; rfl)), hw.last, fun b hb => ⟨(hw.2 b hb).2.2.1, (hw.2 b hb).2.2.2.2.2⟩⟩
    rw [splitC_none 44 _ cur (fun b hb => (hw.2 b hb).2.2.2.1)]
    have := trim_core (v := []) hc (fun b hb => by simp at hb) hw.core
    rw [List.append_nil] at this
    rw [List.map_cons, this]
    rfl
  | p :: q :: r, _, hp, J, cur, hJ, hc => by
    rw [joined_cons] at hJ
    have hw := hp p (by simp)
    obtain ⟨a, J1, rfl, ha, hJ1⟩ := hJ.parts
    obtain rfl := hw.spread ha
    obtain ⟨s, J2, rfl, hs, hJ2⟩ := hJ1.parts
    obtain ⟨s1, s2, rfl, h44, h32⟩ := Spread.parts (a := [44]) (b := [32]) hs
    have h44 := h44.one
    have h32 := h32.one
    unfold SpreadB at h44 h32
    rw [if_neg (by decide), if_pos rfl] at h44
    rw [if_pos rfl] at h32
    obtain ⟨x, y, rfl, hx, hy⟩ := h44
    have hyz : Bls (y ++ s2) := hy.app h32.2
    obtain ⟨i1, i2, i3, i4, i5⟩ := join_cuts (q :: r) (by simp) (fun z hz => hp z (by simp [hz])) J2 (y ++ s2) hJ2 hyz
    refine ⟨?_, by simp [hw.1], fun c h => ?_, fun c h => ?_, fun b hb => ?_⟩
    · rw [show a ++ (x ++ 44 :: y ++ s2 ++ J2) = (a ++ x) ++ 44 :: ((y ++ s2) ++ J2) by simp]
      rw [splitC_hit 44 _ cur _ (fun b hb => by
        rcases List.mem_append.1 hb with hb | hb
        · exact (hw.2 b hb).2.2.2.1
        · exact (bl_ne (hx b hb)).1)]
      rw [split_cur 44 (y ++ s2) [] J2 (fun b hb => (bl_ne (hyz b hb)).1), List.nil_append, List.map_cons, i1, ← List.append_assoc, trim_core hc hx hw.core]
    · rw [head_app hw.1] at h
      exact hw.2 c (List.mem_of_mem_head? (by rw [h]; rfl))
    · have : (a ++ (x ++ 44 :: y ++ s2 ++ J2)).getLast? = J2.getLast? := by
        rw [show a ++ (x ++ 44 :: y ++ s2 ++ J2) = (a ++ (x ++ 44 :: y ++ s2)) ++ J2 by simp, List.getLast?_append]
        cases hl : J2.getLast? with
        | none => exact absurd (List.getLast?_eq_none_iff.1 hl) i2
        | some z => rfl
      rw [this] at h
      exact i4 c h
    · have hb' : b ∈ a ∨ b ∈ x ∨ b = 44 ∨ b ∈ y ∨ b ∈ s2 ∨ b ∈ J2 := by simpa [or_assoc] using hb
      rcases hb' with h | h | h | h | h | h
      · exact ⟨(hw.2 b h).2.2.1, (hw.2 b h).2.2.2.2.2⟩
      · exact ⟨(bl_ne (hx b h)).2.1, (bl_ne (hx b h)).2.2.2⟩
      · subst h; decide
      · exact ⟨(bl_ne (hy b h)).2.1, (bl_ne (hy b h)).2.2.2⟩
      · exact ⟨(bl_ne (h32.2 b h)).2.1, (bl_ne (h32.2 b h)).2.2.2⟩
      · exact i5 b h
end Go.Proofs.YtdldochhondifaaGreatDoor
