/-
  Texts of the claim AsmWholeFixed (AuA AuB AuC AwJ AwK): what each proves stands at its theorems.
  Conditions: as the theorems say.
-/
import Derived.Test.YtdldochhondifaaGreatDoorWArS
import Derived.Test.YtdldochhondifaaGreatDoorWKtC
import Derived.Test.YtdldochhondifaaGreatDoorWAwC
import Derived.Test.YtdldochhondifaaGreatDoorWAwG
import Derived.Test.YtdldochhondifaaGreatDoorWAsL
namespace Go.Proofs.YtdldochhondifaaGreatDoor
open Go Go.RowKit Go.Lib

def Wd (c : UInt8) : Prop := c ≠ 32 ∧ c ≠ 9 ∧ c ≠ 10 ∧ c ≠ 44 ∧ c ≠ 58 ∧ c ≠ 59
def WdL (s : List UInt8) : Prop := s ≠ [] ∧ ∀ c ∈ s, Wd c
def Bls (s : List UInt8) : Prop := ∀ b ∈ s, bl b = true
theorem Wd.nb {c : UInt8} (h : Wd c) : bl c = false := by
  cases hb : bl c with
  | false => rfl
  | true =>
    rcases (bl_iff c).1 hb with e | e
    · exact absurd e h.1
    · exact absurd e h.2.1
theorem WdL.head {s : List UInt8} (h : WdL s) : ∀ c, s.head? = some c → bl c = false := fun c hc => (h.2 c (List.mem_of_mem_head? (by rw [hc]; rfl))).nb
theorem WdL.last {s : List UInt8} (h : WdL s) : ∀ c, s.getLast? = some c → Wd c := fun c hc => h.2 c (List.mem_of_getLast? hc)
theorem digit_wd {c : UInt8} (h : 48 ≤ c.toNat ∧ c.toNat ≤ 57) : Wd c := by
  refine ⟨?_, ?_, ?_, ?_, ?_, ?_⟩ <;> (intro e; subst e; revert h; decide)
theorem itoa_wd (n : Int) : WdL (itoa n) := by
  unfold itoa
  split
  · refine ⟨by simp, fun c hc => ?_⟩
    rcases List.mem_cons.1 hc with rfl | hc
    · exact ⟨by decide, by decide, by decide, by decide, by decide, by decide⟩
    · exact digit_wd (dec_all _ c hc)
  · exact ⟨dec_ne _, fun c hc => digit_wd (dec_all _ c hc)⟩
theorem cons_wd {c : UInt8} {s : List UInt8} (hc : Wd c) (h : ∀ x ∈ s, Wd x) : WdL (c :: s) := ⟨by simp, fun x hx => by
  rcases List.mem_cons.1 hx with rfl | hx
  · exact hc
  · exact h x hx⟩
theorem name_wd {s : ByteArray} (h : nameS s = true) : WdL s.data.toList := by
  unfold nameS at h
  rw [Bool.and_eq_true, decide_eq_true_eq, List.all_eq_true] at h
  obtain ⟨⟨h1, _⟩, h2⟩ := h
  have hl : s.data.toList.length = s.size := (size_eq s).symm
  refine ⟨by intro e; rw [e, List.length_nil] at hl; omega, fun c hc => ?_⟩
  obtain ⟨k, hk⟩ := List.mem_iff_getElem?.1 hc
  have hk' : k < s.data.toList.length := (List.getElem?_eq_some_iff.1 hk).1
  have h3 := h2 k (by rw [List.mem_range]; omega)
  rw [List.getD_eq_getElem?_getD, hk] at h3
  unfold okB at h3
  rw [decide_eq_true_eq] at h3
  simp only [Option.getD_some] at h3
  refine ⟨fun e => ?_, fun e => ?_, fun e => ?_, fun e => ?_, fun e => ?_, fun e => ?_⟩
  · have e1 : (c.toNat : Int) = 32 := by rw [e]; rfl
    omega
  · have e1 : (c.toNat : Int) = 9 := by rw [e]; rfl
    omega
  · have e1 : (c.toNat : Int) = 10 := by rw [e]; rfl
    omega
  · have e1 : (c.toNat : Int) = 44 := by rw [e]; rfl
    omega
  · have e1 : (c.toNat : Int) = 58 := by rw [e]; rfl
    omega
  · have e1 : (c.toNat : Int) = 59 := by rw [e]; rfl
    omega
theorem head_app {a b : List UInt8} (h : a ≠ []) : (a ++ b).head? = a.head? := by
  cases a with
  | nil => exact absurd rfl h
  | cons x a => rfl

def SpreadB (c : UInt8) (w : List UInt8) : Prop :=
  if c = 32 then w ≠ [] ∧ Bls w
  else if c = 44 then ∃ x y, w = x ++ 44 :: y ∧ Bls x ∧ Bls y
  else if c = 10 then w = [10] ∨ w = [32, 59, 32, 120, 44, 32, 121, 58, 10] ∨ w = [10, 10] ∨ w = [9, 10, 59, 10]
  else w = [c]
def Spread : List UInt8 → List UInt8 → Prop
  | [], w => w = []
  | c :: s, w => ∃ u v, w = u ++ v ∧ SpreadB c u ∧ Spread s v
theorem SpreadB.self (c : UInt8) : SpreadB c [c] := by
  unfold SpreadB
  split
  · rename_i h
    subst h
    exact ⟨by simp, fun b hb => by rw [List.mem_singleton] at hb; subst hb; rfl⟩
  split
  · rename_i h
    subst h
    exact ⟨[], [], rfl, fun b hb => by simp at hb, fun b hb => by simp at hb⟩
  split
  · rename_i h
    subst h
    exact .inl rfl
  · rfl
theorem Spread.self : ∀ s, Spread s s
  | [] => rfl
  | c :: s => ⟨[c], s, rfl, SpreadB.self c, Spread.self s⟩
theorem Spread.parts : ∀ {a b w : List UInt8}, Spread (a ++ b) w → ∃ u v, w = u ++ v ∧ Spread a u ∧ Spread b v
  | [], b, w, h => ⟨[], w, rfl, rfl, h⟩
  | c :: a, b, w, h => by
    obtain ⟨u, v, rfl, h1, h2⟩ := h
    obtain ⟨x, y, rfl, h3, h4⟩ := Spread.parts h2
    exact ⟨u ++ x, y, by simp, ⟨u, x, rfl, h1, h3⟩, h4⟩
theorem Spread.join : ∀ {a b u v : List UInt8}, Spread a u → Spread b v → Spread (a ++ b) (u ++ v)
  | [], b, u, v, h, h' => by cases h; exact h'
  | c :: a, b, u, v, h, h' => by
    obtain ⟨x, y, rfl, h1, h2⟩ := h
    exact ⟨x, y ++ v, by simp, h1, h2.join h'⟩
theorem Spread.plain : ∀ {s w : List UInt8}, (∀ c ∈ s, c ≠ 32 ∧ c ≠ 44 ∧ c ≠ 10) → Spread s w → w = s
  | [], w, _, h => h
  | c :: s, w, hs, h => by
    obtain ⟨u, v, rfl, h1, h2⟩ := h
    obtain ⟨e1, e2, e3⟩ := hs c (by simp)
    unfold SpreadB at h1
    rw [if_neg e1, if_neg e2, if_neg e3] at h1
    subst h1
    rw [Spread.plain (fun x hx => hs x (by simp [hx])) h2]
    rfl
theorem Spread.one {c : UInt8} {w : List UInt8} (h : Spread [c] w) : SpreadB c w := by
  obtain ⟨u, v, rfl, h1, h2⟩ := h
  cases h2
  rwa [List.append_nil]
theorem WdL.spread {s w : List UInt8} (h : WdL s) (hw : Spread s w) : w = s := hw.plain fun c hc => ⟨(h.2 c hc).1, (h.2 c hc).2.2.2.1, (h.2 c hc).2.2.1⟩

theorem drop_bls {u v : List UInt8} (h : Bls u) : (u ++ v).dropWhile bl = v.dropWhile bl := by
  induction u with
  | nil => rfl
  | cons a u ih =>
    rw [List.cons_append, List.dropWhile_cons, h a (by simp), if_pos rfl]
    exact ih (fun b hb => h b (by simp [hb]))
theorem Bls.rev {u : List UInt8} (h : Bls u) : Bls u.reverse := fun b hb => h b (by simpa using hb)
theorem Bls.app {u v : List UInt8} (h : Bls u) (h' : Bls v) : Bls (u ++ v) := fun b hb => (List.mem_append.1 hb).elim (h b) (h' b)
theorem Bls.ne {u : List UInt8} (h : Bls u) {c : UInt8} (hc : bl c = false) : ∀ b ∈ u, b ≠ c := fun b hb e => by
  subst e
  rw [h b hb] at hc
  cases hc
/-- What stands between blanks. -/
def Core (s : List UInt8) : Prop := s ≠ [] ∧ (∀ c, s.head? = some c → bl c = false) ∧ (∀ c, s.getLast? = some c → bl c = false)
theorem trim_core {u v s : List UInt8} (hu : Bls u) (hv : Bls v) (hs : Core s) : trimS (u ++ s ++ v) = s := by
  obtain ⟨h0, h1, h2⟩ := hs
  unfold trimS
  rw [List.append_assoc, drop_bls hu]
  have : (s ++ v).dropWhile bl = s ++ v := drop_id fun c hc => by
    rw [head_app h0] at hc
    exact h1 c hc
  rw [this, List.reverse_append, drop_bls hv.rev, drop_id (fun c hc => by rw [List.head?_reverse] at hc; exact h2 c hc), List.reverse_reverse]
theorem WdL.core {s : List UInt8} (h : WdL s) : Core s := ⟨h.1, h.head, fun c hc => (h.last c hc).nb⟩
theorem lines_hit {x r : List UInt8} (h : ∀ b ∈ x, b ≠ 10) : linesL (x ++ 10 :: r) = cleanS x :: linesL r := by
  unfold linesL
  rw [splitC_hit 10 x [] r h]
  rfl
/-- The lines of a text that ends a line, told line by line. -/
def Lines (u : List UInt8) (ls : List (List UInt8)) : Prop := ∀ r, linesL (u ++ r) = ls ++ linesL r
theorem Lines.nil : Lines [] [] := fun _ => rfl
theorem Lines.app {u v : List UInt8} {a b : List (List UInt8)} (h : Lines u a) (h' : Lines v b) : Lines (u ++ v) (a ++ b) := fun r => by
  rw [List.append_assoc, h, h', List.append_assoc]
theorem clean_core {u v s : List UInt8} (hu : Bls u) (hv : Bls v) (hs : Core s) (h59 : ∀ b ∈ s, b ≠ 59) : cleanS (u ++ s ++ v) = s := by
  unfold cleanS
  rw [cut_id, trim_core hu hv hs]
  intro b hb
  rcases List.mem_append.1 hb with hb | hb
  · rcases List.mem_append.1 hb with hb | hb
    · exact hu.ne rfl b hb
    · exact h59 b hb
  · exact hv.ne rfl b hb
theorem clean_remark {u v s r : List UInt8} (hu : Bls u) (hv : Bls v) (hs : Core s) (h59 : ∀ b ∈ s, b ≠ 59) : cleanS (u ++ s ++ v ++ 59 :: r) = s := by
  have hno : ∀ b ∈ u ++ s ++ v, b ≠ 59 := by
    intro b hb
    rcases List.mem_append.1 hb with hb | hb
    · rcases List.mem_append.1 hb with hb | hb
      · exact hu.ne rfl b hb
      · exact h59 b hb
    · exact hv.ne rfl b hb
  unfold cleanS cutS
  rw [take_until hno, trim_core hu hv hs]
/-- A line in whatever spread: itself, and an empty one perhaps. -/
theorem line_lines {u s w : List UInt8} (hu : Bls u) (hs : LineOk s) (hw : SpreadB 10 w) : ∃ k, Lines (u ++ s ++ w) (s :: List.replicate k []) := by
  obtain ⟨h0, h1, h2, h10, h59⟩ := hs
  have hc : Core s := ⟨h0, h1, h2⟩
  have b0 : Bls [] := fun b hb => by simp at hb
  have b9 : Bls [9] := fun b hb => by rw [List.mem_singleton] at hb; subst hb; rfl
  have b32 : Bls [32] := fun b hb => by rw [List.mem_singleton] at hb; subst hb; rfl
  have n10 : ∀ v : List UInt8, (∀ b ∈ v, b ≠ 10) → ∀ b ∈ u ++ s ++ v, b ≠ 10 := fun v hv b hb => by
    rcases List.mem_append.1 hb with hb | hb
    · rcases List.mem_append.1 hb with hb | hb
      · exact hu.ne rfl b hb
      · exact h10 b hb
    · exact hv b hb
  unfold SpreadB at hw
  rw [if_neg (by decide), if_neg (by decide), if_pos rfl] at hw
  rcases hw with rfl | rfl | rfl | rfl
  · refine ⟨0, fun r => ?_⟩
    rw [show u ++ s ++ [10] ++ r = (u ++ s ++ []) ++ 10 :: r by simp, lines_hit (n10 [] (by simp)), clean_core hu b0 hc h59]
    rfl
  · refine ⟨0, fun r => ?_⟩
    rw [show u ++ s ++ [32, 59, 32, 120, 44, 32, 121, 58, 10] ++ r = (u ++ s ++ [32, 59, 32, 120, 44, 32, 121, 58]) ++ 10 :: r by simp, lines_hit (n10 _ (by decide)),
      show u ++ s ++ [32, 59, 32, 120, 44, 32, 121, 58] = u ++ s ++ [32] ++ 59 :: [32, 120, 44, 32, 121, 58] by simp, clean_remark hu b32 hc h59]
    rfl
  · refine ⟨1, fun r => ?_⟩
    rw [show u ++ s ++ [10, 10] ++ r = (u ++ s ++ []) ++ 10 :: ([] ++ 10 :: r) by simp, lines_hit (n10 [] (by simp)), clean_core hu b0 hc h59, lines_hit (by simp)]
    rfl
  · refine ⟨1, fun r => ?_⟩
    rw [show u ++ s ++ [9, 10, 59, 10] ++ r = (u ++ s ++ [9]) ++ 10 :: ([59] ++ 10 :: r) by simp, lines_hit (n10 [9] (by decide)), clean_core hu b9 hc h59, lines_hit (by decide)]
    rfl

theorem split_cur (c : UInt8) : ∀ (b cur l : List UInt8), (∀ x ∈ b, x ≠ c) → splitC c cur (b ++ l) = splitC c (cur ++ b) l
  | [], cur, l, _ => by simp
  | a :: b, cur, l, h => by
    rw [List.cons_append, splitC, if_neg (h a (by simp)), split_cur c b _ l (fun x hx => h x (by simp [hx]))]
    simp
theorem joined_cons (x y : List UInt8) (r : List (List UInt8)) (sep : List UInt8) : join (x :: y :: r) sep = x ++ (sep ++ join (y :: r) sep) := by
  rw [join_cons, join_cons]
  unfold joinTail
  rw [List.map_cons, List.flatten_cons, List.append_assoc]
theorem bl_ne {c : UInt8} (h : bl c = true) : c ≠ 44 ∧ c ≠ 10 ∧ c ≠ 58 ∧ c ≠ 59 := by
  rcases (bl_iff c).1 h with rfl | rfl <;> decide
/-- Parts in whatever spread. -/
theorem join_cuts : ∀ (ps : List (List UInt8)), ps ≠ [] → (∀ p ∈ ps, WdL p) → ∀ (J cur : List UInt8), Spread (join ps [44, 32]) J → Bls cur →
    (splitC 44 cur J).map trimS = ps ∧ J ≠ [] ∧ (∀ c, J.head? = some c → Wd c) ∧ (∀ c, J.getLast? = some c → Wd c) ∧ ∀ b ∈ J, b ≠ 10 ∧ b ≠ 59
  | [], h, _, _, _, _, _ => absurd rfl h
  | [p], _, hp, J, cur, hJ, hc => by
    rw [join_one] at hJ
    have hw := hp p (by simp)
    obtain rfl := hw.spread hJ
    refine ⟨?_, hw.1, fun c h => hw.2 c (List.mem_of_mem_head? (by rw [h]; rfl)), hw.last, fun b hb => ⟨(hw.2 b hb).2.2.1, (hw.2 b hb).2.2.2.2.2⟩⟩
    rw [splitC_none 44 _ cur (fun b hb => (hw.2 b hb).2.2.2.1)]
    have := trim_core (v := []) hc (fun b hb => by simp at hb) hw.core
    rw [List.append_nil] at this
    rw [List.map_cons, this]
    rfl
  | p :: q :: r, _, hp, J, cur, hJ, hc => by
    rw [joined_cons] at hJ
    have hw := hp p (by simp)
    obtain ⟨a, J1, rfl, ha, hJ1⟩ := hJ.parts
    obtain rfl := hw.spread ha
    obtain ⟨s, J2, rfl, hs, hJ2⟩ := hJ1.parts
    obtain ⟨s1, s2, rfl, h44, h32⟩ := Spread.parts (a := [44]) (b := [32]) hs
    have h44 := h44.one
    have h32 := h32.one
    unfold SpreadB at h44 h32
    rw [if_neg (by decide), if_pos rfl] at h44
    rw [if_pos rfl] at h32
    obtain ⟨x, y, rfl, hx, hy⟩ := h44
    have hyz : Bls (y ++ s2) := hy.app h32.2
    obtain ⟨i1, i2, i3, i4, i5⟩ := join_cuts (q :: r) (by simp) (fun z hz => hp z (by simp [hz])) J2 (y ++ s2) hJ2 hyz
    refine ⟨?_, by simp [hw.1], fun c h => ?_, fun c h => ?_, fun b hb => ?_⟩
    · rw [show a ++ (x ++ 44 :: y ++ s2 ++ J2) = (a ++ x) ++ 44 :: ((y ++ s2) ++ J2) by simp]
      rw [splitC_hit 44 _ cur _ (fun b hb => by
        rcases List.mem_append.1 hb with hb | hb
        · exact (hw.2 b hb).2.2.2.1
        · exact (bl_ne (hx b hb)).1)]
      rw [split_cur 44 (y ++ s2) [] J2 (fun b hb => (bl_ne (hyz b hb)).1), List.nil_append, List.map_cons, i1, ← List.append_assoc, trim_core hc hx hw.core]
    · rw [head_app hw.1] at h
      exact hw.2 c (List.mem_of_mem_head? (by rw [h]; rfl))
    · have : (a ++ (x ++ 44 :: y ++ s2 ++ J2)).getLast? = J2.getLast? := by
        rw [show a ++ (x ++ 44 :: y ++ s2 ++ J2) = (a ++ (x ++ 44 :: y ++ s2)) ++ J2 by simp, List.getLast?_append]
        cases hl : J2.getLast? with
        | none => exact absurd (List.getLast?_eq_none_iff.1 hl) i2
        | some z => rfl
      rw [this] at h
      exact i4 c h
    · have hb' : b ∈ a ∨ b ∈ x ∨ b = 44 ∨ b ∈ y ∨ b ∈ s2 ∨ b ∈ J2 := by simpa [or_assoc] using hb
      rcases hb' with h | h | h | h | h | h
      · exact ⟨(hw.2 b h).2.2.1, (hw.2 b h).2.2.2.2.2⟩
      · exact ⟨(bl_ne (hx b h)).2.1, (bl_ne (hx b h)).2.2.2⟩
      · subst h; decide
      · exact ⟨(bl_ne (hy b h)).2.1, (bl_ne (hy b h)).2.2.2⟩
      · exact ⟨(bl_ne (h32.2 b h)).2.1, (bl_ne (h32.2 b h)).2.2.2⟩
      · exact i5 b h
end Go.Proofs.YtdldochhondifaaGreatDoor
namespace Go.Proofs.YtdldochhondifaaGreatDoor
open Go Go.RowKit Go.Lib

theorem itoa_small {n : Int} {c : UInt8} (h : c ∈ itoa n) : c.toNat ≤ 57 := by
  unfold itoa at h
  split at h
  · rcases List.mem_cons.1 h with rfl | h
    · decide
    · exact (dec_all _ c h).2
  · exact (dec_all _ c h).2
theorem regI_part {n : Int} (h : 0 ≤ n ∧ n ≤ 15) : regI (114 :: itoa n) = some n := by
  rw [regI_hit, numI_itoa ⟨by omega, by omega⟩]
  simp only
  rw [if_pos (by omega)]
theorem regI_num (n : Int) : regI (itoa n) = none := regI_miss fun h => by
  have := itoa_small (List.mem_of_mem_head? (by rw [h]; rfl))
  revert this
  decide
theorem labI_part {n : Int} (h : 0 ≤ n ∧ n < 10000) : labI (76 :: itoa n) = some n := by
  rw [labI_hit]
  unfold digI
  have hl : (itoa n).length ≤ 4 := by
    unfold itoa
    rw [if_neg (by omega)]
    exact dec_len 4 _ (by omega) (by omega)
  rw [if_pos hl, numI_itoa ⟨by omega, by omega⟩]
  simp only
  rw [if_pos h.1]

/-- What the line of an instruction tells. -/
def insOf (nb : Bool) (rt : Int → List UInt8) (m : Mac) : Ins :=
  ⟨{ m with n := if shK m.op = 2 ∨ (shK m.op = 4 ∧ nb = true) then 0 else m.n }, if shK m.op = 2 then some m.n else none, if shK m.op = 4 ∧ nb = true then some (rt m.n) else none⟩
def updI (nb : Bool) (rt : Int → List UInt8) (m : Mac) (x : Ins) (c : UInt8) : Ins :=
  if c = 100 then ⟨{ x.m with dst := m.dst }, x.goal, x.call⟩
  else if c = 97 then ⟨{ x.m with a := m.a }, x.goal, x.call⟩
  else if c = 98 then ⟨{ x.m with b := m.b }, x.goal, x.call⟩
  else if c = 116 then ⟨x.m, some m.n, x.call⟩
  else if c = 114 ∧ nb = true then ⟨x.m, x.goal, some (rt m.n)⟩
  else ⟨{ x.m with n := m.n }, x.goal, x.call⟩
/-- An instruction whose line reads back. -/
structure TellOk (nb : Bool) (rt : Int → List UInt8) (m : Mac) : Prop where
  ok : m.ok
  op : isOp m.op = true
  regs : RegsOk m
  zd : shD m.op = false → m.dst = 0
  za : shA m.op = false → m.a = 0
  zb : shB m.op = false → m.b = 0
  zn : shK m.op = 0 → m.n = 0
  goal : shK m.op = 2 → 0 ≤ m.n ∧ m.n < 10000
  name : shK m.op = 4 → nb = true → WdL (rt m.n) ∧ nameS (mkS (rt m.n)) = true
  num : shK m.op = 4 → nb = false → rt m.n = itoa m.n

/-- Which letters, what is used: all there are. -/
def ordTab : List (List UInt8 × Bool × Bool × Bool × Int) :=
  [([100, 110], true, false, false, 1), ([100, 97], true, true, false, 0), ([100, 97, 98], true, true, true, 0), ([100, 97, 110], true, true, false, 1), ([98, 97, 110], false, true, true, 1),
   ([100, 119], true, false, false, 3), ([97, 119], false, true, false, 3), ([116], false, false, false, 2), ([97, 116], false, true, false, 2), ([97, 98, 116], false, true, true, 2),
   ([114], false, false, false, 4), ([], false, false, false, 0), ([100], true, false, false, 0), ([97], false, true, false, 0)]
theorem ord_cases {op : Int} (h : isOp op = true) :
    (ordL op = [100, 110] ∧ shD op = true ∧ shA op = false ∧ shB op = false ∧ shK op = 1) ∨
    (ordL op = [100, 97] ∧ shD op = true ∧ shA op = true ∧ shB op = false ∧ shK op = 0) ∨
    (ordL op = [100, 97, 98] ∧ shD op = true ∧ shA op = true ∧ shB op = true ∧ shK op = 0 ∧ op < 19) ∨
    (ordL op = [100, 97, 110] ∧ shD op = true ∧ shA op = true ∧ shB op = false ∧ shK op = 1 ∧ 19 ≤ op) ∨
    (ordL op = [98, 97, 110] ∧ shD op = false ∧ shA op = true ∧ shB op = true ∧ shK op = 1) ∨
    (ordL op = [100, 119] ∧ shD op = true ∧ shA op = false ∧ shB op = false ∧ shK op = 3) ∨
    (ordL op = [97, 119] ∧ shD op = false ∧ shA op = true ∧ shB op = false ∧ shK op = 3) ∨
    (ordL op = [116] ∧ shD op = false ∧ shA op = false ∧ shB op = false ∧ shK op = 2) ∨
    (ordL op = [97, 116] ∧ shD op = false ∧ shA op = true ∧ shB op = false ∧ shK op = 2) ∨
    (ordL op = [97, 98, 116] ∧ shD op = false ∧ shA op = true ∧ shB op = true ∧ shK op = 2) ∨
    (ordL op = [114] ∧ shD op = false ∧ shA op = false ∧ shB op = false ∧ shK op = 4) ∨
    (ordL op = [] ∧ shD op = false ∧ shA op = false ∧ shB op = false ∧ shK op = 0) ∨
    (ordL op = [100] ∧ shD op = true ∧ shA op = false ∧ shB op = false ∧ shK op = 0) ∨
    (ordL op = [97] ∧ shD op = false ∧ shA op = true ∧ shB op = false ∧ shK op = 0) := by
  rw [isOp_iff] at h
  have key : ∀ k : Fin 48, 1 ≤ k.val → (ordTab.any fun t => decide (ordL (k.val : Int) = t.1) && decide (shD (k.val : Int) = t.2.1) && decide (shA (k.val : Int) = t.2.2.1) && decide (shB (k.val : Int) = t.2.2.2.1) && decide (shK (k.val : Int) = t.2.2.2.2)) = true := by decide +kernel
  have key1 : ∀ k : Fin 48, 19 ≤ k.val → ordL (k.val : Int) ≠ [100, 97, 98] := by decide +kernel
  have key2 : ∀ k : Fin 48, k.val < 19 → ordL (k.val : Int) ≠ [100, 97, 110] := by decide +kernel
  have k0 := key ⟨op.toNat, by omega⟩ (by simp; omega)
  have k1 := key1 ⟨op.toNat, by omega⟩
  have k2 := key2 ⟨op.toNat, by omega⟩
  simp only [show ((op.toNat : Nat) : Int) = op from by omega] at k0 k1 k2
  have h1 : ordL op = [100, 97, 98] → op < 19 := fun e => Decidable.byContradiction fun hn => k1 (by omega) e
  have h2 : ordL op = [100, 97, 110] → 19 ≤ op := fun e => Decidable.byContradiction fun hn => k2 (by omega) e
  have hm : (ordL op, shD op, shA op, shB op, shK op) ∈ ordTab := by
    obtain ⟨t, ht, he⟩ := List.any_eq_true.1 k0
    simp only [Bool.and_eq_true, decide_eq_true_eq] at he
    obtain ⟨⟨⟨⟨e1, e2⟩, e3⟩, e4⟩, e5⟩ := he
    rw [e1, e2, e3, e4, e5]
    exact ht
  unfold ordTab at hm
  simp only [List.mem_cons, List.not_mem_nil, or_false, Prod.mk.injEq] at hm
  rcases hm with ⟨e, hm⟩ | ⟨e, hm⟩ | ⟨e, a, b, c, d⟩ | ⟨e, a, b, c, d⟩ | ⟨e, hm⟩ | ⟨e, hm⟩ | ⟨e, hm⟩ | ⟨e, hm⟩ | ⟨e, hm⟩ | ⟨e, hm⟩ | ⟨e, hm⟩ | ⟨e, hm⟩ | ⟨e, hm⟩ | ⟨e, hm⟩
  · exact .inl ⟨e, hm⟩
  · exact .inr (.inl ⟨e, hm⟩)
  · exact .inr (.inr (.inl ⟨e, a, b, c, d, h1 e⟩))
  · exact .inr (.inr (.inr (.inl ⟨e, a, b, c, d, h2 e⟩)))
  · exact .inr (.inr (.inr (.inr (.inl ⟨e, hm⟩))))
  · exact .inr (.inr (.inr (.inr (.inr (.inl ⟨e, hm⟩)))))
  · exact .inr (.inr (.inr (.inr (.inr (.inr (.inl ⟨e, hm⟩))))))
  · exact .inr (.inr (.inr (.inr (.inr (.inr (.inr (.inl ⟨e, hm⟩)))))))
  · exact .inr (.inr (.inr (.inr (.inr (.inr (.inr (.inr (.inl ⟨e, hm⟩))))))))
  · exact .inr (.inr (.inr (.inr (.inr (.inr (.inr (.inr (.inr (.inl ⟨e, hm⟩)))))))))
  · exact .inr (.inr (.inr (.inr (.inr (.inr (.inr (.inr (.inr (.inr (.inl ⟨e, hm⟩))))))))))
  · exact .inr (.inr (.inr (.inr (.inr (.inr (.inr (.inr (.inr (.inr (.inr (.inl ⟨e, hm⟩)))))))))))
  · exact .inr (.inr (.inr (.inr (.inr (.inr (.inr (.inr (.inr (.inr (.inr (.inr (.inl ⟨e, hm⟩))))))))))))
  · exact .inr (.inr (.inr (.inr (.inr (.inr (.inr (.inr (.inr (.inr (.inr (.inr (.inr ⟨e, hm⟩))))))))))))
/-- Which letters an instruction has. -/
theorem ord_has {op : Int} (h : isOp op = true) {c : UInt8} (hc : c ∈ ordL op) :
    (c = 100 → shD op = true) ∧ (c = 97 → shA op = true) ∧ (c = 98 → shB op = true) ∧ (c = 116 → shK op = 2) ∧ (c = 114 → shK op = 4) := by
  rcases ord_cases h with ⟨e, h1, h2, h3, h4⟩ | ⟨e, h1, h2, h3, h4⟩ | ⟨e, h1, h2, h3, h4, _⟩ | ⟨e, h1, h2, h3, h4, _⟩ | ⟨e, h1, h2, h3, h4⟩ | ⟨e, h1, h2, h3, h4⟩ | ⟨e, h1, h2, h3, h4⟩ | ⟨e, h1, h2, h3, h4⟩ | ⟨e, h1, h2, h3, h4⟩ | ⟨e, h1, h2, h3, h4⟩ | ⟨e, h1, h2, h3, h4⟩ | ⟨e, h1, h2, h3, h4⟩ | ⟨e, h1, h2, h3, h4⟩ | ⟨e, h1, h2, h3, h4⟩ <;>
    rw [e] at hc <;> simp only [List.mem_cons, or_false, List.not_mem_nil] at hc <;>
    (repeat' (rcases hc with hc | hc)) <;> (try subst hc) <;> simp [h1, h2, h3, h4] at *
theorem fields_fold {nb : Bool} {rt : Int → List UInt8} {m : Mac} (hm : TellOk nb rt m) : (ordL m.op).foldl (updI nb rt m) (ins0 m.op) = insOf nb rt m := by
  obtain ⟨op, dst, a, b, n⟩ := m
  obtain ⟨_, ho, _, zd, za, zb, zn, _, _, _⟩ := hm
  simp only at ho zd za zb zn
  unfold insOf
  simp only
  rcases ord_cases ho with ⟨e, h1, h2, h3, h4⟩ | ⟨e, h1, h2, h3, h4⟩ | ⟨e, h1, h2, h3, h4, _⟩ | ⟨e, h1, h2, h3, h4, _⟩ | ⟨e, h1, h2, h3, h4⟩ | ⟨e, h1, h2, h3, h4⟩ | ⟨e, h1, h2, h3, h4⟩ | ⟨e, h1, h2, h3, h4⟩ | ⟨e, h1, h2, h3, h4⟩ | ⟨e, h1, h2, h3, h4⟩ | ⟨e, h1, h2, h3, h4⟩ | ⟨e, h1, h2, h3, h4⟩ | ⟨e, h1, h2, h3, h4⟩ | ⟨e, h1, h2, h3, h4⟩ <;>
    rw [e, h4] <;> rw [h1] at zd <;> rw [h2] at za <;> rw [h3] at zb <;> rw [h4] at zn <;>
    simp only [forall_const, reduceCtorEq, false_implies] at zd za zb zn <;> (try subst zd) <;> (try subst za) <;> (try subst zb) <;> (try subst zn) <;>
    cases nb <;> simp [updI, ins0]
theorem field_part {nb : Bool} {rt : Int → List UInt8} {m : Mac} (hm : TellOk nb rt m) (x : Ins) {c : UInt8} (hc : c ∈ ordL m.op) : fieldP nb x c (partL m rt c) = some (updI nb rt m x c) := by
  obtain ⟨c1, c2, c3, c4, c5⟩ := ord_has hm.op hc
  obtain ⟨r1, r2, r3⟩ := hm.regs
  unfold fieldP partL updI
  by_cases e1 : c = 100
  · rw [if_pos e1, if_pos e1, if_pos e1, regI_part (by have := r1 (c1 e1); omega)]; rfl
  rw [if_neg e1, if_neg e1, if_neg e1]
  by_cases e2 : c = 97
  · rw [if_pos e2, if_pos e2, if_pos e2, regI_part (by have := r2 (c2 e2); omega)]; rfl
  rw [if_neg e2, if_neg e2, if_neg e2]
  by_cases e3 : c = 98
  · rw [if_pos e3, if_pos e3, if_pos e3, regI_part (by have := r3 (c3 e3); omega)]; rfl
  rw [if_neg e3, if_neg e3, if_neg e3]
  by_cases e4 : c = 116
  · rw [if_pos e4, if_pos e4, if_pos e4, labI_part (hm.goal (c4 e4))]; rfl
  rw [if_neg e4, if_neg e4, if_neg e4]
  by_cases e5 : c = 114
  · rw [if_pos e5]
    cases nb with
    | true => rw [if_pos ⟨e5, rfl⟩, if_pos (hm.name (c5 e5) rfl).2, if_pos ⟨e5, rfl⟩]
    | false => rw [if_neg (by simp), if_neg (by simp), hm.num (c5 e5) rfl, numI_itoa hm.ok.n]; rfl
  · rw [if_neg e5, if_neg (fun h => e5 h.1), if_neg (fun h => e5 h.1), numI_itoa hm.ok.n]; rfl
theorem fields_parts {nb : Bool} {rt : Int → List UInt8} {m : Mac} (hm : TellOk nb rt m) : ∀ (cs : List UInt8) (x : Ins), (∀ c ∈ cs, c ∈ ordL m.op) → fieldsP nb x cs (cs.map (partL m rt)) = some (cs.foldl (updI nb rt m) x)
  | [], x, _ => by rw [fieldsP]; rfl; intro _ _ _ _ e; cases e
  | c :: cs, x, h => by
    rw [List.map_cons, fieldsP, field_part hm x (h c (by simp)), Option.bind_some, fields_parts hm cs _ (fun d hd => h d (by simp [hd]))]
    rfl
theorem part_wd {nb : Bool} {rt : Int → List UInt8} {m : Mac} (hm : TellOk nb rt m) {c : UInt8} (hc : c ∈ ordL m.op) : WdL (partL m rt c) := by
  have h114 : Wd 114 := ⟨by decide, by decide, by decide, by decide, by decide, by decide⟩
  have h76 : Wd 76 := ⟨by decide, by decide, by decide, by decide, by decide, by decide⟩
  unfold partL
  split
  · exact cons_wd h114 (itoa_wd _).2
  split
  · exact cons_wd h114 (itoa_wd _).2
  split
  · exact cons_wd h114 (itoa_wd _).2
  split
  · exact cons_wd h76 (itoa_wd _).2
  split
  · rename_i h
    have hk := (ord_has hm.op hc).2.2.2.2 h
    cases nb with
    | true => exact (hm.name hk rfl).1
    | false => rw [hm.num hk rfl]; exact itoa_wd _
  · exact itoa_wd _
theorem third_reg {nb : Bool} {rt : Int → List UInt8} {m : Mac} (hm : TellOk nb rt m) (h5 : 5 ≤ m.op ∧ m.op ≤ 32) : (regI ((partsL rt m).getD 2 [])).isSome = decide (m.op < 19) := by
  have h3 : (ordL m.op).length = 3 := ord_arith h5
  have hr := hm.regs.2.2
  unfold partsL
  rcases ord_cases hm.op with ⟨e, _⟩ | ⟨e, _⟩ | ⟨e, _, _, hb, _, h⟩ | ⟨e, _, _, _, _, h⟩ | ⟨e, _, _, _, hk⟩ | ⟨e, _⟩ | ⟨e, _⟩ | ⟨e, _⟩ | ⟨e, _⟩ | ⟨e, _, _, _, hk⟩ | ⟨e, _⟩ | ⟨e, _⟩ | ⟨e, _⟩ | ⟨e, _⟩ <;> rw [e] at h3 ⊢ <;> try (exact absurd h3 (by decide))
  · rw [decide_eq_true h, show ([100, 97, 98].map (partL m rt)).getD 2 [] = 114 :: itoa m.b from rfl, regI_part (by have := hr hb; omega)]
    rfl
  · rw [decide_eq_false (by omega), show ([100, 97, 110].map (partL m rt)).getD 2 [] = itoa m.n from rfl, regI_num]
    rfl
  · exfalso
    have key : ∀ k : Fin 33, 5 ≤ k.val → ordL (k.val : Int) ≠ [98, 97, 110] := by decide +kernel
    have := key ⟨m.op.toNat, by omega⟩ (by simp; omega)
    simp only [show ((m.op.toNat : Nat) : Int) = m.op from by omega] at this
    exact this e
  · exfalso
    have key : ∀ k : Fin 33, 5 ≤ k.val → ordL (k.val : Int) ≠ [97, 98, 116] := by decide +kernel
    have := key ⟨m.op.toNat, by omega⟩ (by simp; omega)
    simp only [show ((m.op.toNat : Nat) : Int) = m.op from by omega] at this
    exact this e
theorem op_reads {nb : Bool} {rt : Int → List UInt8} {m : Mac} (hm : TellOk nb rt m) : opP (wordL m.op) (partsL rt m) = some m.op := by
  have hlen : (partsL rt m).length = (ordL m.op).length := by unfold partsL; rw [List.length_map]
  refine opP_some hm.op ?_ fun op' ho' hlt => ?_
  · unfold fitP
    rw [decide_eq_true (show wordL m.op = wordL m.op from rfl), decide_eq_true hlen.symm]
    by_cases h5 : 5 ≤ m.op ∧ m.op ≤ 32
    · rw [third_reg hm h5]; simp
    · rw [decide_eq_false h5]; rfl
  · by_cases hw : wordL op' = wordL m.op
    · have hp := wordL_inj ho' hm.op hw
      have h1 := (isOp_iff _).1 ho'
      have h2 := (isOp_iff _).1 hm.op
      have hc : m.op = op' + 14 ∧ 5 ≤ op' ∧ op' ≤ 18 := by
        unfold plainI at hp
        split at hp <;> split at hp <;> omega
      unfold fitP
      rw [third_reg hm ⟨by omega, by omega⟩, decide_eq_true (show 5 ≤ op' ∧ op' ≤ 32 by omega), decide_eq_true (show op' < 19 by omega), decide_eq_false (show ¬ m.op < 19 by omega)]
      simp
    · exact fit_word hw

def globalW : List UInt8 := [103, 108, 111, 98, 97, 108]
def routineW : List UInt8 := [114, 111, 117, 116, 105, 110, 101]
theorem word_wd {op : Int} (h : isOp op = true) : WdL (wordL op) ∧ wordL op ≠ globalW ∧ wordL op ≠ routineW := by
  rw [isOp_iff] at h
  have key : ∀ k : Fin 48, 1 ≤ k.val → (wordL (k.val : Int) ≠ [] ∧ (wordL (k.val : Int)).all (fun c => decide (97 ≤ c.toNat)) = true) ∧ wordL (k.val : Int) ≠ globalW ∧ wordL (k.val : Int) ≠ routineW := by decide +kernel
  have := key ⟨op.toNat, by omega⟩ (by simp; omega)
  simp only [show ((op.toNat : Nat) : Int) = op from by omega] at this
  refine ⟨⟨this.1.1, fun c hc => ?_⟩, this.2⟩
  have := of_decide_eq_true (List.all_eq_true.1 this.1.2 c hc)
  refine ⟨?_, ?_, ?_, ?_, ?_, ?_⟩ <;> (intro e; subst e; revert this; decide)
theorem take_word {s r : List UInt8} (h : WdL s) (hr : ∀ c, r.head? = some c → bl c = true) : (s ++ r).takeWhile (fun c => !bl c) = s ∧ (s ++ r).dropWhile (fun c => !bl c) = r := by
  have hs : ∀ c ∈ s, (!bl c) = true := fun c hc => by rw [(h.2 c hc).nb]; rfl
  rw [List.takeWhile_append_of_pos hs, List.dropWhile_append_of_pos hs]
  cases r with
  | nil => simp
  | cons a r => rw [List.takeWhile_cons, List.dropWhile_cons, hr a rfl]; simp
/-- The line of an instruction, in whatever spread. -/
theorem line_reads {nb : Bool} {rt : Int → List UInt8} {m : Mac} (hm : TellOk nb rt m) {w : List UInt8} (hw : Spread (lineL rt m) w) :
    ∃ s k, s ≠ [] ∧ Lines w (s :: List.replicate k []) ∧ (∀ st, lineP nb st s = (0, ⟨st.code ++ [insOf nb rt m], st.labs⟩)) ∧ wordP s = wordL m.op := by
  unfold lineL at hw
  obtain ⟨w1, nl, rfl, hw1, hnl⟩ := hw.parts
  obtain ⟨w2, mid, rfl, hw2, hmid⟩ := hw1.parts
  obtain ⟨lead, wd, rfl, hlead, hwd⟩ := hw2.parts
  obtain ⟨wwd, _⟩ := word_wd hm.op
  obtain rfl := wwd.spread hwd
  have hl : Bls lead := by
    obtain ⟨a, b, rfl, ha, hb⟩ := Spread.parts (a := [32]) (b := [32]) hlead
    have ha := ha.one
    have hb := hb.one
    unfold SpreadB at ha hb
    rw [if_pos rfl] at ha hb
    exact ha.2.app hb.2
  have hnl := hnl.one
  have hfin : ∀ (s : List UInt8), s.getLast? ≠ some 58 → wordP s = wordL m.op → cutsL (tailP s) = partsL rt m → ∀ st, lineP nb st s = (0, ⟨st.code ++ [insOf nb rt m], st.labs⟩) := by
    intro s h1 h2 h3 st
    unfold lineP
    rw [if_neg h1, h2, h3, op_reads hm]
    simp only
    have hf := fields_parts hm (ordL m.op) (ins0 m.op) (fun c h => h)
    rw [fields_fold hm] at hf
    rw [show partsL rt m = (ordL m.op).map (partL m rt) from rfl, hf]
  by_cases hp : partsL rt m = []
  · rw [if_pos hp] at hmid
    cases hmid
    rw [List.append_nil]
    obtain ⟨k, hk⟩ := line_lines hl (s := wordL m.op) ⟨wwd.1, wwd.head, fun c hc => (wwd.last c hc).nb, fun b hb => (wwd.2 b hb).2.2.1, fun b hb => (wwd.2 b hb).2.2.2.2.2⟩ hnl
    obtain ⟨t1, t2⟩ := take_word (r := []) wwd (fun c hc => by cases hc)
    rw [List.append_nil] at t1 t2
    refine ⟨_, k, wwd.1, hk, hfin _ (fun h => (wwd.last _ h).2.2.2.2.1 rfl) t1 ?_, t1⟩
    unfold tailP
    rw [t2, hp]
    rfl
  · rw [if_neg hp] at hmid
    obtain ⟨g, J, rfl, hg, hJ⟩ := Spread.parts (a := [32]) (b := join (partsL rt m) [44, 32]) hmid
    have hg := hg.one
    unfold SpreadB at hg
    rw [if_pos rfl] at hg
    have hps : ∀ p ∈ partsL rt m, WdL p := fun p h => by
      unfold partsL at h
      obtain ⟨c, hc, rfl⟩ := List.mem_map.1 h
      exact part_wd hm hc
    obtain ⟨j1, j2, j3, j4, j5⟩ := join_cuts (partsL rt m) hp hps J [] hJ (fun b hb => by simp at hb)
    obtain ⟨t1, t2⟩ := take_word (r := g ++ J) wwd (fun c hc => by
      rw [head_app hg.1] at hc
      exact hg.2 c (List.mem_of_mem_head? (by rw [hc]; rfl)))
    have hlast : (wordL m.op ++ (g ++ J)).getLast? = J.getLast? := by
      rw [← List.append_assoc, List.getLast?_append]
      cases hl : J.getLast? with
      | none => exact absurd (List.getLast?_eq_none_iff.1 hl) j2
      | some z => rfl
    obtain ⟨k, hk⟩ := line_lines hl (s := wordL m.op ++ (g ++ J)) ⟨by simp [wwd.1], fun c hc => by rw [head_app wwd.1] at hc; exact wwd.head c hc, fun c hc => by rw [hlast] at hc; exact (j4 c hc).nb, fun b hb => by
        rcases List.mem_append.1 hb with h | h
        · exact (wwd.2 b h).2.2.1
        · rcases List.mem_append.1 h with h | h
          · exact (bl_ne (hg.2 b h)).2.1
          · exact (j5 b h).1, fun b hb => by
        rcases List.mem_append.1 hb with h | h
        · exact (wwd.2 b h).2.2.2.2.2
        · rcases List.mem_append.1 h with h | h
          · exact (bl_ne (hg.2 b h)).2.2.2
          · exact (j5 b h).2⟩ hnl
    refine ⟨_, k, by simp [wwd.1], by rw [show lead ++ wordL m.op ++ (g ++ J) ++ nl = lead ++ (wordL m.op ++ (g ++ J)) ++ nl by simp]; exact hk, hfin _ (fun h => by rw [hlast] at h; exact (j4 _ h).2.2.2.2.1 rfl) t1 ?_, t1⟩
    unfold tailP
    rw [t2, drop_bls hg.2, drop_id (fun c hc => (j3 c hc).nb)]
    unfold cutsL
    rw [if_neg j2, j1]
/-- The line of a label, in whatever spread. -/
theorem label_reads (nb : Bool) {i : Nat} (hi : i < 10000) {w : List UInt8} (hw : Spread (labelL i) w) :
    ∃ s k, s ≠ [] ∧ Lines w (s :: List.replicate k []) ∧ (∀ st, (∀ x ∈ st.labs, x.1 ≠ (i : Int)) → lineP nb st s = (0, ⟨st.code, st.labs ++ [((i : Int), st.code.length)]⟩)) ∧ wordP s ≠ [] ∧ wordP s ≠ globalW ∧ wordP s ≠ routineW := by
  unfold labelL at hw
  rw [show 76 :: itoa (i : Int) ++ [58, 10] = (76 :: itoa (i : Int) ++ [58]) ++ [10] by simp] at hw
  obtain ⟨s, nl, rfl, hs, hnl⟩ := hw.parts
  have hit := itoa_wd (i : Int)
  have hmem : ∀ c ∈ 76 :: itoa (i : Int) ++ [58], bl c = false ∧ c ≠ 32 ∧ c ≠ 44 ∧ c ≠ 10 ∧ c ≠ 59 := fun c hc => by
    rcases List.mem_append.1 hc with h | h
    · rcases List.mem_cons.1 h with rfl | h
      · decide
      · have := hit.2 c h
        exact ⟨this.nb, this.1, this.2.2.2.1, this.2.2.1, this.2.2.2.2.2⟩
    · rw [List.mem_singleton] at h
      subst h
      decide
  obtain rfl := hs.plain fun c hc => ⟨(hmem c hc).2.1, (hmem c hc).2.2.1, (hmem c hc).2.2.2.1⟩
  obtain ⟨k, hk⟩ := line_lines (u := []) (fun b hb => by simp at hb) (s := 76 :: itoa (i : Int) ++ [58]) ⟨by simp, fun c hc => (hmem c (List.mem_of_mem_head? (by rw [hc]; rfl))).1, fun c hc => (hmem c (List.mem_of_getLast? hc)).1, fun b hb => (hmem b hb).2.2.2.1, fun b hb => (hmem b hb).2.2.2.2⟩ hnl.one
  rw [List.nil_append] at hk
  have hw76 : wordP (76 :: itoa (i : Int) ++ [58]) = 76 :: itoa (i : Int) ++ [58] := by
    unfold wordP
    have := List.takeWhile_append_of_pos (l₁ := 76 :: itoa (i : Int) ++ [58]) (l₂ := []) (p := fun c => !bl c) (fun c hc => by rw [(hmem c hc).1]; rfl)
    rw [List.append_nil] at this
    rw [this]
    simp
  refine ⟨_, k, by simp, hk, fun st hst => ?_, by rw [hw76]; exact ⟨by simp, fun e => (by cases e), fun e => (by cases e)⟩⟩
  unfold lineP
  rw [if_pos List.getLast?_concat, List.dropLast_concat, labI_part ⟨by omega, by omega⟩]
  simp only
  rw [if_neg]
  rw [List.any_eq_true]
  rintro ⟨x, hx, he⟩
  exact hst x hx (by simpa using he)
end Go.Proofs.YtdldochhondifaaGreatDoor
namespace Go.Proofs.YtdldochhondifaaGreatDoor
open Go Go.RowKit Go.Lib

/-- Lines read one behind the other, without a fault. -/
def Walks {S : Type} (f : S → List UInt8 → Int × S) : S → List (List UInt8) → S → Prop
  | a, [], b => a = b
  | a, l :: ls, b => (l = [] ∧ Walks f a ls b) ∨ (l ≠ [] ∧ (f a l).1 = 0 ∧ Walks f (f a l).2 ls b)
theorem Walks.app {S : Type} {f : S → List UInt8 → Int × S} : ∀ {xs ys : List (List UInt8)} {a b c : S}, Walks f a xs b → Walks f b ys c → Walks f a (xs ++ ys) c
  | [], ys, a, b, c, h, h' => by cases h; exact h'
  | x :: xs, ys, a, b, c, h, h' => by
    rcases h with ⟨e, h⟩ | ⟨e, e0, h⟩
    · exact .inl ⟨e, h.app h'⟩
    · exact .inr ⟨e, e0, h.app h'⟩
theorem Walks.blank {S : Type} (f : S → List UInt8 → Int × S) (a : S) : ∀ k : Nat, Walks f a (List.replicate k []) a
  | 0 => rfl
  | k + 1 => .inl ⟨rfl, Walks.blank f a k⟩
theorem Walks.line {S : Type} {f : S → List UInt8 → Int × S} {a b : S} {s : List UInt8} (hs : s ≠ []) (h : f a s = (0, b)) (k : Nat) : Walks f a (s :: List.replicate k []) b :=
  .inr ⟨hs, by rw [h], by rw [h]; exact Walks.blank f b k⟩
theorem Walks.steps {nb : Bool} : ∀ {ls : List (List UInt8)} {a b : PSt}, Walks (lineP nb) a ls b → ∀ (i : Nat) (r : List (List UInt8)), ∃ j, stepsP nb i a (ls ++ r) = stepsP nb j b r
  | [], a, b, h, i, r => by cases h; exact ⟨i, rfl⟩
  | l :: ls, a, b, h, i, r => by
    rw [List.cons_append, stepsP]
    rcases h with ⟨e, h⟩ | ⟨e, e0, h⟩
    · rw [if_pos e]
      exact h.steps (i + 1) r
    · rw [if_neg e, if_pos e0]
      exact h.steps (i + 1) r

def labsTo (l : List Mac) (k : Nat) : List (Int × Nat) := ((List.range k).filter (markL l)).map fun (i : Nat) => ((i : Int), i)
def stTo (nb : Bool) (rt : Int → List UInt8) (l : List Mac) (k : Nat) : PSt := ⟨(l.take k).map (insOf nb rt), labsTo l k⟩
theorem labs_mem {l : List Mac} {k : Nat} {x : Int × Nat} (h : x ∈ labsTo l k) : x.1 = (x.2 : Int) ∧ x.2 < k := by
  unfold labsTo at h
  obtain ⟨i, hi, rfl⟩ := List.mem_map.1 h
  rw [List.mem_filter, List.mem_range] at hi
  exact ⟨rfl, hi.1⟩
theorem labs_succ (l : List Mac) (k : Nat) : labsTo l (k + 1) = labsTo l k ++ (if markL l k = true then [((k : Int), k)] else []) := by
  unfold labsTo
  rw [List.range_succ, List.filter_append, List.map_append]
  congr 1
  rw [List.filter_cons]
  split <;> simp
theorem text_reads {nb : Bool} {rt : Int → List UInt8} {l : List Mac} (hl : l.length ≤ 5000) (hm : ∀ m ∈ l, TellOk nb rt m) : ∀ k, k ≤ l.length → ∀ w, Spread (textTo rt l k) w →
    ∃ ls, Lines w ls ∧ Walks (lineP nb) ⟨[], []⟩ ls (stTo nb rt l k) ∧ ∀ s ∈ ls, s ≠ [] → wordP s ≠ [] ∧ wordP s ≠ globalW ∧ wordP s ≠ routineW
  | 0, _, w, hw => by
    rw [textTo_zero] at hw
    cases hw
    exact ⟨[], Lines.nil, rfl, by simp⟩
  | k + 1, hk, w, hw => by
    rw [textTo_succ] at hw
    obtain ⟨u, v, rfl, hu, hv⟩ := hw.parts
    obtain ⟨ls, h1, h2, h3⟩ := text_reads hl hm k (by omega) u hu
    have hg : l.getD k ⟨0, 0, 0, 0, 0⟩ = l[k] := by rw [List.getD_eq_getElem?_getD, List.getElem?_eq_getElem (by omega)]; rfl
    unfold pieceL at hv
    rw [hg] at hv
    obtain ⟨a, b, rfl, ha, hb⟩ := hv.parts
    obtain ⟨s, j, s0, s1, s2, s3⟩ := line_reads (hm l[k] (List.getElem_mem (by omega))) hb
    have hwd : wordL (l[k]).op ≠ [] ∧ wordL (l[k]).op ≠ globalW ∧ wordL (l[k]).op ≠ routineW := ⟨(word_wd (hm l[k] (List.getElem_mem (by omega))).op).1.1, (word_wd (hm l[k] (List.getElem_mem (by omega))).op).2⟩
    have hcode : (l.take (k + 1)).map (insOf nb rt) = (l.take k).map (insOf nb rt) ++ [insOf nb rt l[k]] := by
      rw [List.take_succ_eq_append_getElem (by omega), List.map_append]
      rfl
    have hlen : (stTo nb rt l k).code.length = k := by
      show ((l.take k).map (insOf nb rt)).length = k
      rw [List.length_map, List.length_take]
      omega
    by_cases hmk : markL l k = true
    · rw [if_pos hmk] at ha
      obtain ⟨t, i, t0, t1, t2, t3⟩ := label_reads nb (show k < 10000 by omega) ha
      have hst := t2 (stTo nb rt l k) (fun x hx e => by
        have := labs_mem hx
        omega)
      rw [hlen] at hst
      have hfin : (⟨(stTo nb rt l k).code ++ [insOf nb rt l[k]], (stTo nb rt l k).labs ++ [((k : Int), k)]⟩ : PSt) = stTo nb rt l (k + 1) := by
        unfold stTo
        rw [labs_succ, if_pos hmk, hcode]
      refine ⟨ls ++ ((t :: List.replicate i []) ++ (s :: List.replicate j [])), h1.app (t1.app s1), h2.app ((Walks.line t0 hst i).app (Walks.line s0 (by rw [s2]; exact congrArg _ hfin) j)), fun x hx hx0 => ?_⟩
      rcases List.mem_append.1 hx with h | h
      · exact h3 x h hx0
      rcases List.mem_append.1 h with h | h
      · rcases List.mem_cons.1 h with rfl | h
        · exact t3
        · exact absurd (List.mem_replicate.1 h).2 hx0
      · rcases List.mem_cons.1 h with rfl | h
        · rw [s3]; exact hwd
        · exact absurd (List.mem_replicate.1 h).2 hx0
    · rw [if_neg hmk] at ha
      cases ha
      rw [List.nil_append]
      have hfin : (⟨(stTo nb rt l k).code ++ [insOf nb rt l[k]], (stTo nb rt l k).labs⟩ : PSt) = stTo nb rt l (k + 1) := by
        unfold stTo
        rw [labs_succ, if_neg hmk, hcode, List.append_nil]
      refine ⟨ls ++ (s :: List.replicate j []), h1.app s1, h2.app (Walks.line s0 (by rw [s2]; exact congrArg _ hfin) j), fun x hx hx0 => ?_⟩
      rcases List.mem_append.1 hx with h | h
      · exact h3 x h hx0
      · rcases List.mem_cons.1 h with rfl | h
        · rw [s3]; exact hwd
        · exact absurd (List.mem_replicate.1 h).2 hx0

theorem place_to {l : List Mac} {k i : Nat} (hi : i < k) (hm : markL l i = true) : placeP (labsTo l k) (i : Int) = some i := by
  unfold placeP
  cases hf : (labsTo l k).reverse.find? (fun x => x.1 == (i : Int)) with
  | none =>
    rw [List.find?_eq_none] at hf
    have hin : ((i : Int), i) ∈ (labsTo l k).reverse := by
      rw [List.mem_reverse]
      unfold labsTo
      exact List.mem_map.2 ⟨i, by rw [List.mem_filter, List.mem_range]; exact ⟨hi, hm⟩, rfl⟩
    exact absurd (by simp) (hf _ hin)
  | some x =>
    have h1 := List.find?_some hf
    have h2 := labs_mem (List.mem_reverse.1 (List.mem_of_find?_eq_some hf))
    simp only [beq_iff_eq] at h1
    rw [Option.map_some]
    congr 1
    omega
/-- A call that is told by a name has no number yet. -/
def unCall (nb : Bool) (m : Mac) : Mac := if shK m.op = 4 ∧ nb = true then { m with n := 0 } else m
theorem settle_text {nb : Bool} {rt : Int → List UInt8} {l : List Mac} (hg : ∀ m ∈ l, shK m.op = 2 → 0 ≤ m.n ∧ m.n < (l.length : Int)) :
    settleP (stTo nb rt l l.length) = none ∧ settled (stTo nb rt l l.length) = l.map (unCall nb) := by
  have hplace : ∀ m ∈ l, shK m.op = 2 → placeP (labsTo l l.length) m.n = some m.n.toNat := fun m hm hk => by
    obtain ⟨h0, h1⟩ := hg m hm hk
    have hmk : markL l m.n.toNat = true := by
      unfold markL
      rw [List.any_eq_true]
      exact ⟨m, hm, by simp [hk]; omega⟩
    have := place_to (l := l) (k := l.length) (i := m.n.toNat) (by omega) hmk
    rwa [Int.toNat_of_nonneg h0] at this
  have hcl : (stTo nb rt l l.length).code = l.map (insOf nb rt) := by
    unfold stTo
    simp only
    rw [List.take_length]
  constructor
  · unfold settleP
    rw [List.findIdx?_eq_none_iff, hcl]
    intro x hx
    obtain ⟨m, hm, rfl⟩ := List.mem_map.1 hx
    unfold lostP insOf
    simp only
    by_cases hk : shK m.op = 2
    · rw [if_pos hk]
      simp only
      rw [show (stTo nb rt l l.length).labs = labsTo l l.length from rfl, hplace m hm hk]
      simp only [decide_eq_false_iff_not, List.length_map]
      have := hg m hm hk
      omega
    · rw [if_neg hk]
  · unfold settled
    rw [hcl, List.map_map]
    refine List.map_congr_left fun m hm => ?_
    rw [Function.comp_apply]
    unfold setP insOf unCall
    simp only
    by_cases hk : shK m.op = 2
    · rw [if_pos hk, if_pos (.inl hk), if_neg (by rw [hk]; simp)]
      simp only
      rw [show (stTo nb rt l l.length).labs = labsTo l l.length from rfl, hplace m hm hk, Option.getD_some, Int.toNat_of_nonneg (hg m hm hk).1]
    · rw [if_neg hk]
      by_cases h4 : shK m.op = 4 ∧ nb = true
      · rw [if_pos (.inr h4), if_pos h4]
      · rw [if_neg (fun h => h.elim hk h4), if_neg h4]
/-- An instruction without fault can be told. -/
theorem tell_of {nb : Bool} {rt : Int → List UInt8} {m : Mac} {many : Int} (hok : m.ok) (hmany : many ≤ 5000) (hf : faultS m many = 0)
    (hname : shK m.op = 4 → nb = true → WdL (rt m.n) ∧ nameS (mkS (rt m.n)) = true) (hnum : shK m.op = 4 → nb = false → rt m.n = itoa m.n) :
    TellOk nb rt m ∧ (shK m.op = 2 → 0 ≤ m.n ∧ m.n < many) := by
  obtain ⟨ho, hr, zd, za, zb, hn⟩ := (fault_zero m many).1 hf
  have hz := (zero_of_fault hf).2.2.2
  have hgo : shK m.op = 2 → 0 ≤ m.n ∧ m.n < many := fun hk => by
    rw [hk] at hn
    unfold numberS at hn
    rw [if_neg (by decide), if_neg (by decide), if_neg (by decide), if_neg (by decide)] at hn
    split at hn
    · cases hn
    · omega
  exact ⟨⟨hok, ho, hr, zd, za, zb, hz, fun hk => by have := hgo hk; omega, hname, hnum⟩, hgo⟩
end Go.Proofs.YtdldochhondifaaGreatDoor
namespace Go.Proofs.YtdldochhondifaaGreatDoor
open Go Go.RowKit Go.Lib

def joinB : List (List UInt8) → List UInt8
  | [] => []
  | w :: ws => w ++ (ws.map fun x => 32 :: x).flatten
theorem words_tail : ∀ (ws : List (List UInt8)), (∀ x ∈ ws, x ≠ [] ∧ ∀ c ∈ x, bl c = false) → ∀ cur, cur ≠ [] → wordsU cur ((ws.map fun x => 32 :: x).flatten) = cur :: ws
  | [], _, cur, h => by
    simp only [List.map_nil, List.flatten_nil]
    rw [wordsU, if_neg h]
  | x :: ws, hw, cur, h => by
    obtain ⟨h0, h1⟩ := hw x (by simp)
    rw [List.map_cons, List.flatten_cons, List.cons_append, wordsU, if_pos (show bl 32 = true from rfl), if_neg h, wordsU_run x [] _ h1, List.nil_append, words_tail ws (fun y hy => hw y (by simp [hy])) x h0]
theorem words_join {ws : List (List UInt8)} (h : ∀ x ∈ ws, x ≠ [] ∧ ∀ c ∈ x, bl c = false) : wordsP (joinB ws) = ws := by
  cases ws with
  | nil => rfl
  | cons x ws =>
    obtain ⟨h0, h1⟩ := h x (by simp)
    unfold wordsP joinB
    rw [wordsU_run x [] _ h1, List.nil_append, words_tail ws (fun y hy => h y (by simp [hy])) x h0]
theorem WdL.word {s : List UInt8} (h : WdL s) : s ≠ [] ∧ ∀ c ∈ s, bl c = false := ⟨h.1, fun c hc => (h.2 c hc).nb⟩
theorem joinB_last : ∀ (ws : List (List UInt8)) (w : List UInt8), (∀ x ∈ w :: ws, WdL x) → ∀ c, (joinB (w :: ws)).getLast? = some c → Wd c
  | [], w, h, c, hc => by
    unfold joinB at hc
    simp only [List.map_nil, List.flatten_nil, List.append_nil] at hc
    exact (h w (by simp)).last c hc
  | x :: ws, w, h, c, hc => by
    have ih := joinB_last ws x (fun y hy => h y (by simp only [List.mem_cons] at hy ⊢; exact .inr hy))
    have he : joinB (w :: x :: ws) = (w ++ [32]) ++ joinB (x :: ws) := by unfold joinB; simp
    rw [he, List.getLast?_append] at hc
    cases hl : (joinB (x :: ws)).getLast? with
    | none =>
      rw [List.getLast?_eq_none_iff] at hl
      have := (h x (by simp)).1
      unfold joinB at hl
      rw [List.append_eq_nil_iff] at hl
      exact absurd hl.1 this
    | some z =>
      rw [hl] at hc
      cases hc
      exact ih c hl
theorem joinB_mem {ws : List (List UInt8)} (h : ∀ x ∈ ws, WdL x) {b : UInt8} (hb : b ∈ joinB ws) : b = 32 ∨ Wd b := by
  cases ws with
  | nil => simp [joinB] at hb
  | cons w ws =>
    unfold joinB at hb
    rcases List.mem_append.1 hb with hb | hb
    · exact .inr ((h w (by simp)).2 b hb)
    · obtain ⟨l, hl, hb⟩ := List.mem_flatten.1 hb
      obtain ⟨x, hx, rfl⟩ := List.mem_map.1 hl
      rcases List.mem_cons.1 hb with rfl | hb
      · exact .inl rfl
      · exact .inr ((h x (by simp [hx])).2 b hb)
/-- Words parted by blanks are a line. -/
theorem joinB_line {w : List UInt8} {ws : List (List UInt8)} (h : ∀ x ∈ w :: ws, WdL x) : LineOk (joinB (w :: ws)) := by
  have hw := h w (by simp)
  refine ⟨by unfold joinB; simp [hw.1], fun c hc => ?_, fun c hc => (joinB_last ws w h c hc).nb, fun b hb e => ?_, fun b hb e => ?_⟩
  · unfold joinB at hc
    rw [head_app hw.1] at hc
    exact hw.head c hc
  · subst e
    rcases joinB_mem h hb with e | e
    · exact absurd e (by decide)
    · exact e.2.2.1 rfl
  · subst e
    rcases joinB_mem h hb with e | e
    · exact absurd e (by decide)
    · exact e.2.2.2.2.2 rfl
theorem joinB_lines {w : List UInt8} {ws : List (List UInt8)} (h : ∀ x ∈ w :: ws, WdL x) : Lines (joinB (w :: ws) ++ [10]) [joinB (w :: ws)] := by
  obtain ⟨k, hk⟩ := line_lines (u := []) (fun b hb => by simp at hb) (joinB_line h) (SpreadB.self 10)
  intro r
  have hl := joinB_line h
  have := clean_core (u := []) (v := []) (s := joinB (w :: ws)) (fun b hb => by simp at hb) (fun b hb => by simp at hb) ⟨hl.1, hl.2.1, hl.2.2.1⟩ hl.2.2.2.2
  rw [List.append_assoc, show [10] ++ r = 10 :: r from rfl, lines_hit hl.2.2.2.1]
  simp only [List.nil_append, List.append_nil] at this
  rw [this]
  rfl

theorem Walks.stepsW : ∀ {ls : List (List UInt8)} {a b : WSt}, Walks wlineP a ls b → ∀ (i : Nat) (r : List (List UInt8)), ∃ j, stepsW i a (ls ++ r) = stepsW j b r
  | [], a, b, h, i, r => by cases h; exact ⟨i, rfl⟩
  | l :: ls, a, b, h, i, r => by
    rw [List.cons_append, Proofs.YtdldochhondifaaGreatDoor.stepsW]
    rcases h with ⟨e, h⟩ | ⟨e, e0, h⟩
    · rw [if_pos e]
      exact h.stepsW (i + 1) r
    · rw [if_neg e, if_pos e0]
      exact h.stepsW (i + 1) r
/-- Lines of code are read by the last section. -/
theorem Walks.lift {gs : List Glob} {ys : List SecP} {nm : List UInt8} : ∀ {ls : List (List UInt8)} {a b : PSt}, Walks (lineP true) a ls b → (∀ s ∈ ls, s ≠ [] → wordP s ≠ [] ∧ wordP s ≠ globW ∧ wordP s ≠ routW) →
    Walks wlineP ⟨gs, ys ++ [⟨nm, a⟩]⟩ ls ⟨gs, ys ++ [⟨nm, b⟩]⟩
  | [], a, b, h, _ => by cases h; exact rfl
  | l :: ls, a, b, h, hw => by
    rcases h with ⟨e, h⟩ | ⟨e, e0, h⟩
    · exact .inl ⟨e, h.lift (fun s hs => hw s (by simp [hs]))⟩
    · obtain ⟨w0, w1, w2⟩ := hw l (by simp) e
      have hhead : ∀ c, l.head? = some c → bl c = false := fun c hc => by
        cases hb : bl c with
        | false => rfl
        | true =>
          exfalso
          apply w0
          cases l with
          | nil => cases hc
          | cons d l =>
            cases hc
            unfold wordP
            rw [List.takeWhile_cons, hb]
            rfl
      obtain ⟨r, hr⟩ := words_head e hhead
      have hg : (wordsP l).getD 0 [] = wordP l := by rw [hr]; rfl
      have hline : wlineP ⟨gs, ys ++ [⟨nm, a⟩]⟩ l = ((lineP true a l).1, ⟨gs, ys ++ [⟨nm, (lineP true a l).2⟩]⟩) := by
        unfold wlineP
        rw [hg, if_neg w1, if_neg w2]
        unfold lastLineP
        simp only [List.getLast?_concat, List.dropLast_concat]
      exact .inr ⟨e, by rw [hline]; exact e0, by rw [hline]; exact h.lift (fun s hs => hw s (by simp [hs]))⟩
theorem Lines.none {u : List UInt8} {ls : List (List UInt8)} (h : Lines u ls) : linesL u = ls ++ [[]] := by
  have := h []
  rw [List.append_nil] at this
  rw [this]
  rfl

theorem nums_itoa : ∀ (l : List Int), (∀ x ∈ l, I64 x) → numsP (l.map itoa) = some l
  | [], _ => rfl
  | a :: l, h => by
    rw [List.map_cons, numsP, numI_itoa (h a (by simp)), Option.bind_some, nums_itoa l (fun x hx => h x (by simp [hx]))]
    rfl
def globWords (g : Glob) : List (List UInt8) := globW :: g.name.data.toList :: itoa g.size :: g.init.map itoa
theorem globL_eq (g : Glob) : globL g = joinB (globWords g) ++ [10] := by
  unfold globL globHead initTo joinB globWords globW
  rw [List.take_length]
  simp
  rfl
theorem globWords_wd {g : Glob} (h : nameS g.name = true) : ∀ x ∈ globWords g, WdL x := by
  intro x hx
  unfold globWords at hx
  simp only [List.mem_cons, List.mem_map] at hx
  rcases hx with rfl | rfl | rfl | ⟨n, _, rfl⟩
  · refine ⟨by decide, fun c hc => ?_⟩
    have : c = 103 ∨ c = 108 ∨ c = 111 ∨ c = 98 ∨ c = 97 := by
      unfold globW at hc
      simp only [List.mem_cons, List.not_mem_nil, or_false] at hc
      rcases hc with e | e | e | e | e | e <;> simp [e]
    rcases this with rfl | rfl | rfl | rfl | rfl <;> exact ⟨by decide, by decide, by decide, by decide, by decide, by decide⟩
  · exact name_wd h
  · exact itoa_wd _
  · exact itoa_wd _
theorem glob_reads {g : Glob} {x : WSt} (hs : x.secs = []) (hn : nameS g.name = true) (hz : I64 g.size) (hi : ∀ n ∈ g.init, I64 n) :
    Lines (globL g) [joinB (globWords g)] ∧ joinB (globWords g) ≠ [] ∧ wlineP x (joinB (globWords g)) = (0, ⟨x.globs ++ [g], x.secs⟩) := by
  have hw := globWords_wd hn
  refine ⟨by rw [globL_eq]; exact joinB_lines hw, (joinB_line hw).1, ?_⟩
  have hwords : wordsP (joinB (globWords g)) = globWords g := words_join fun y hy => (hw y hy).word
  have hglob : globP (globWords g) = some g := by
    unfold globP
    have h1 : (globWords g).getD 1 [] = g.name.data.toList := rfl
    have h2 : (globWords g).drop 2 = (g.size :: g.init).map itoa := rfl
    have h3 : mkS g.name.data.toList = g.name := rfl
    rw [h1, h2, h3, if_pos ⟨by unfold globWords; simp, hn⟩, nums_itoa (g.size :: g.init) (fun n hn' => by
      rcases List.mem_cons.1 hn' with rfl | hn'
      · exact hz
      · exact hi n hn')]
    rfl
  unfold wlineP
  rw [hwords, if_pos (show (globWords g).getD 0 [] = globW from rfl), if_neg (by simp [hs]), hglob]
theorem globs_read : ∀ (gs : List Glob) (pre : List Glob), (∀ g ∈ gs, nameS g.name = true ∧ I64 g.size ∧ ∀ n ∈ g.init, I64 n) → ∃ ls, Lines ((gs.map globL).flatten) ls ∧ Walks wlineP ⟨pre, []⟩ ls ⟨pre ++ gs, []⟩
  | [], pre, _ => ⟨[], Lines.nil, by rw [List.append_nil]; rfl⟩
  | g :: gs, pre, h => by
    obtain ⟨a, b, c⟩ := h g (by simp)
    obtain ⟨h1, h2, h3⟩ := glob_reads (x := ⟨pre, []⟩) rfl a b c
    obtain ⟨ls, i1, i2⟩ := globs_read gs (pre ++ [g]) (fun g' hg' => h g' (by simp [hg']))
    refine ⟨[joinB (globWords g)] ++ ls, by rw [List.map_cons, List.flatten_cons]; exact h1.app i1, ?_⟩
    have := (Walks.line (f := wlineP) h2 h3 0).app i2
    rw [show pre ++ g :: gs = pre ++ [g] ++ gs by simp]
    exact this

theorem routW_wd : WdL routW := by
  refine ⟨by decide, fun c hc => ?_⟩
  have : c = 114 ∨ c = 111 ∨ c = 117 ∨ c = 116 ∨ c = 105 ∨ c = 110 ∨ c = 101 := by
    unfold routW at hc
    simp only [List.mem_cons, List.not_mem_nil, or_false] at hc
    exact hc
  rcases this with rfl | rfl | rfl | rfl | rfl | rfl | rfl <;> exact ⟨by decide, by decide, by decide, by decide, by decide, by decide⟩
theorem routHead_eq (r : Rout) : routHead r = joinB [routW, r.name.data.toList] ++ [10] := by
  unfold routHead joinB routW
  simp
/-- What a routine of an image that may run is. -/
structure RoutFine (rs : List Rout) (r : Rout) : Prop where
  name : nameS r.name = true
  check : (checkS (readL r.code).2).1 = 0
  ok : ∀ m ∈ (readL r.code).2, m.ok
  calls : ∀ m ∈ (readL r.code).2, m.op = 44 → m.n < (rs.length : Int)
  code : bytesS (readL r.code).2 = r.code
def codeOfR (r : Rout) : List Mac := (readL r.code).2
def secOfR (rs : List Rout) (r : Rout) : SecP := ⟨r.name.data.toList, stTo true (rtN (namesL rs)) (codeOfR r) (codeOfR r).length⟩
theorem rtN_at {rs : List Rout} {n : Int} (h0 : 0 ≤ n) (h : n < (rs.length : Int)) : ∃ r, rs[n.toNat]? = some r ∧ rtN (namesL rs) n = r.name.data.toList := by
  have hl : (namesL rs).length = rs.length := by unfold namesL; rw [List.length_map]
  refine ⟨rs[n.toNat]'(by omega), List.getElem?_eq_getElem _, ?_⟩
  unfold rtN
  rw [if_neg (by omega), List.getD_eq_getElem?_getD]
  unfold namesL
  rw [List.getElem?_map, List.getElem?_eq_getElem (by omega)]
  rfl
theorem tell_rout {rs : List Rout} (hnm : ∀ r ∈ rs, nameS r.name = true) {r : Rout} (h : RoutFine rs r) : ∀ m ∈ codeOfR r, TellOk true (rtN (namesL rs)) m ∧ (shK m.op = 2 → 0 ≤ m.n ∧ m.n < ((codeOfR r).length : Int)) ∧ (shK m.op = 4 → 0 ≤ m.n ∧ m.n < (rs.length : Int)) := by
  obtain ⟨hl, hall, _⟩ := (code_ok_iff _).1 h.check
  intro m hm
  obtain ⟨j, hj⟩ := List.mem_iff_getElem?.1 hm
  have hf := hall j m hj
  obtain ⟨ho, _, _, _, _, hn⟩ := (fault_zero m _).1 hf
  have h4 : shK m.op = 4 → 0 ≤ m.n ∧ m.n < (rs.length : Int) := fun hk => by
    refine ⟨?_, h.calls m hm (call_op ho hk)⟩
    rw [hk] at hn
    unfold numberS at hn
    rw [if_neg (by decide), if_neg (by decide), if_neg (by decide), if_pos rfl] at hn
    split at hn
    · cases hn
    · omega
  obtain ⟨t1, t2⟩ := tell_of (nb := true) (rt := rtN (namesL rs)) (h.ok m hm) (by unfold codeOfR at *; omega) hf (fun hk _ => by
    obtain ⟨h0, h1⟩ := h4 hk
    obtain ⟨r', hr', he⟩ := rtN_at h0 h1
    have hn' := hnm r' (List.mem_of_getElem? hr')
    rw [he]
    exact ⟨name_wd hn', hn'⟩) (fun _ h => by cases h)
  exact ⟨t1, t2, h4⟩
theorem rout_reads {rs : List Rout} (hnm : ∀ r ∈ rs, nameS r.name = true) {r : Rout} (hr : r ∈ rs) (h : RoutFine rs r) (x : WSt) : ∃ ls, Lines (routL rs r) ls ∧ Walks wlineP x ls ⟨x.globs, x.secs ++ [secOfR rs r]⟩ := by
  have hn := hnm r hr
  have hwd : ∀ y ∈ [routW, r.name.data.toList], WdL y := fun y hy => by
    simp only [List.mem_cons, List.not_mem_nil, or_false] at hy
    rcases hy with rfl | rfl
    · exact routW_wd
    · exact name_wd hn
  have hwords : wordsP (joinB [routW, r.name.data.toList]) = [routW, r.name.data.toList] := words_join fun y hy => (hwd y hy).word
  have hline : wlineP x (joinB [routW, r.name.data.toList]) = (0, ⟨x.globs, x.secs ++ [⟨r.name.data.toList, ⟨[], []⟩⟩]⟩) := by
    unfold wlineP
    rw [hwords, if_neg (show ¬ [routW, r.name.data.toList].getD 0 [] = globW by show ¬ routW = globW; decide), if_pos (show [routW, r.name.data.toList].getD 0 [] = routW from rfl), if_pos ⟨rfl, hn⟩]
    rfl
  have ht := tell_rout hnm h
  obtain ⟨hl, _, _⟩ := (code_ok_iff _).1 h.check
  obtain ⟨ls, h1, h2, h3⟩ := text_reads (nb := true) (rt := rtN (namesL rs)) (l := codeOfR r) hl (fun m hm => (ht m hm).1) (codeOfR r).length (Nat.le_refl _) _ (Spread.self _)
  refine ⟨[joinB [routW, r.name.data.toList]] ++ ls, ?_, ?_⟩
  · unfold routL
    rw [routHead_eq]
    exact (joinB_lines hwd).app h1
  · exact (Walks.line (f := wlineP) (joinB_line hwd).1 hline 0).app (Walks.lift h2 h3)
theorem routs_read {rs : List Rout} (hnm : ∀ r ∈ rs, nameS r.name = true) : ∀ (l : List Rout), (∀ r ∈ l, r ∈ rs ∧ RoutFine rs r) → ∀ (x : WSt), ∃ ls, Lines ((l.map (routL rs)).flatten) ls ∧ Walks wlineP x ls ⟨x.globs, x.secs ++ l.map (secOfR rs)⟩
  | [], _, x => ⟨[], Lines.nil, by rw [List.map_nil, List.append_nil]; rfl⟩
  | r :: l, h, x => by
    obtain ⟨hr, hf⟩ := h r (by simp)
    obtain ⟨a, a1, a2⟩ := rout_reads hnm hr hf x
    obtain ⟨b, b1, b2⟩ := routs_read hnm l (fun r' hr' => h r' (by simp [hr'])) ⟨x.globs, x.secs ++ [secOfR rs r]⟩
    refine ⟨a ++ b, by rw [List.map_cons, List.flatten_cons]; exact a1.app b1, ?_⟩
    have := a2.app b2
    simp only [List.append_assoc, List.singleton_append] at this
    exact this
/-- Its section gives a routine back. -/
theorem sect_back {rs : List Rout} (hnm : ∀ r ∈ rs, nameS r.name = true) (hd : ∀ (i j : Nat) (a b : Rout), rs[i]? = some a → rs[j]? = some b → i < j → a.name ≠ b.name) {r : Rout} (h : RoutFine rs r) :
    sectP (namesL rs) (secOfR rs r).st = 0 ∧ linked (namesL rs) (secOfR rs r).st = codeOfR r := by
  have ht := tell_rout hnm h
  obtain ⟨s1, s2⟩ := settle_text (nb := true) (rt := rtN (namesL rs)) (l := codeOfR r) (fun m hm => (ht m hm).2.1)
  have hfind : ∀ n : Int, 0 ≤ n → n < (rs.length : Int) → findP (namesL rs) (rtN (namesL rs) n) = some n.toNat := fun n h0 h1 => by
    obtain ⟨r', hr', he⟩ := rtN_at h0 h1
    have hlt := (List.getElem?_eq_some_iff.1 hr').1
    rw [he]
    unfold findP namesL
    rw [List.findIdx?_eq_some_iff_getElem]
    refine ⟨by rw [List.length_map]; exact hlt, by rw [List.getElem_map, (List.getElem?_eq_some_iff.1 hr').2]; simp, fun j hj => ?_⟩
    rw [List.getElem_map]
    simp only [beq_iff_eq]
    intro e
    have hne := hd j n.toNat (rs[j]'(by omega)) r' (List.getElem?_eq_getElem _) hr' hj
    exact hne (by
      have e1 : mkS (rs[j]'(by omega)).name.data.toList = mkS r'.name.data.toList := by rw [e]
      exact e1)
  have hcode : (secOfR rs r).st.code = (codeOfR r).map (insOf true (rtN (namesL rs))) := by
    unfold secOfR stTo
    simp only
    rw [List.take_length]
  have hlink : linked (namesL rs) (secOfR rs r).st = codeOfR r := by
    unfold linked
    rw [hcode, List.map_map]
    have hs : ∀ m ∈ codeOfR r, setP (secOfR rs r).st.labs (insOf true (rtN (namesL rs)) m) = unCall true m := by
      have he : ((codeOfR r).map (insOf true (rtN (namesL rs)))).map (setP (secOfR rs r).st.labs) = (codeOfR r).map (unCall true) := by
        have := s2
        unfold settled at this
        rw [← this]
        congr 1
        exact hcode.symm
      rw [List.map_map] at he
      intro m hm
      exact List.map_inj_left.1 he m hm
    have : ∀ m ∈ codeOfR r, (linkP (namesL rs) (secOfR rs r).st.labs ∘ insOf true (rtN (namesL rs))) m = id m := fun m hm => by
      rw [Function.comp_apply]
      unfold linkP
      rw [hs m hm]
      by_cases hk : shK m.op = 4
      · have hc : (insOf true (rtN (namesL rs)) m).call = some (rtN (namesL rs) m.n) := by unfold insOf; simp [hk]
        rw [hc]
        simp only
        obtain ⟨h0, h1⟩ := (ht m hm).2.2 hk
        rw [hfind m.n h0 h1, Option.getD_some, Int.toNat_of_nonneg h0]
        unfold unCall
        rw [if_pos ⟨hk, rfl⟩]
        rfl
      · have hc : (insOf true (rtN (namesL rs)) m).call = none := by unfold insOf; simp [hk]
        rw [hc]
        unfold unCall
        rw [if_neg (fun h => hk h.1)]
        rfl
    rw [List.map_congr_left this, List.map_id]
  refine ⟨?_, hlink⟩
  rw [sect_found (st := (secOfR rs r).st) s1 (fun i c hic => ?_), hlink]
  · exact h.check
  · obtain ⟨x, hx, hxc⟩ := calls_mem.1 hic
    rw [hcode, List.getElem?_map] at hx
    obtain ⟨m, hm, rfl⟩ := Option.map_eq_some_iff.1 hx
    unfold insOf at hxc
    simp only at hxc
    split at hxc
    · rename_i hk
      cases hxc
      obtain ⟨h0, h1⟩ := (ht m (List.mem_of_getElem? hm)).2.2 hk.1
      exact ⟨_, hfind m.n h0 h1⟩
    · cases hxc
/-- The text of an image that may run reads back as that image. -/
theorem whole_text {gs : List Glob} {rs : List Rout} (hm : (machF gs rs).1 = 0) (hg : ∀ g ∈ gs, nameS g.name = true ∧ I64 g.size ∧ ∀ n ∈ g.init, I64 n) (hr : ∀ r ∈ rs, RoutFine rs r)
    (hd : ∀ (i j : Nat) (a b : Rout), rs[i]? = some a → rs[j]? = some b → i < j → a.name ≠ b.name) (hlen : (apartL gs rs).length ≤ 80000) : wholeP (apartL gs rs) = ((gs, rs), (0, 0)) := by
  have hnm : ∀ r ∈ rs, nameS r.name = true := fun r h => (hr r h).name
  obtain ⟨a, a1, a2⟩ := globs_read gs [] hg
  obtain ⟨b, b1, b2⟩ := routs_read hnm rs (fun r h => ⟨h, hr r h⟩) ⟨[] ++ gs, []⟩
  have ht : apartL gs rs = (gs.map globL).flatten ++ (rs.map (routL rs)).flatten := by
    unfold apartL globsTo routsTo
    rw [List.take_length, List.take_length]
  have hl := (a1.app b1).none
  rw [← ht] at hl
  obtain ⟨j, hj⟩ := (a2.app b2).stepsW 0 [[]]
  simp only [List.nil_append] at hj
  have hst : stepsW 0 ⟨[], []⟩ (linesL (apartL gs rs)) = ((0, 0), ⟨gs, rs.map (secOfR rs)⟩) := by
    rw [hl, hj]
    rfl
  have hnames : secNames (rs.map (secOfR rs)) = namesL rs := by
    unfold secNames namesL
    rw [List.map_map]
    rfl
  have hbad : ∀ k, k < (rs.map (secOfR rs)).length → secBad (rs.map (secOfR rs)) k = 0 := fun k hk => by
    rw [List.length_map] at hk
    unfold secBad
    rw [List.getElem?_map, List.getElem?_eq_getElem hk, Option.map_some]
    simp only
    rw [hnames]
    exact (sect_back hnm hd (hr _ (List.getElem_mem hk))).1
  have hrouts : routsP (rs.map (secOfR rs)) = rs := by
    unfold routsP
    rw [hnames, List.map_map]
    have : ∀ r ∈ rs, (routP (namesL rs) ∘ secOfR rs) r = id r := fun r h => by
      rw [Function.comp_apply]
      unfold routP
      rw [(sect_back hnm hd (hr r h)).2]
      unfold codeOfR
      rw [(hr r h).code]
      rfl
    rw [List.map_congr_left this, List.map_id]
  unfold wholeP
  rw [if_neg (by omega), hst, if_neg (by simp)]
  unfold imgP
  simp only
  rw [firstBad_ok hbad, if_neg (by simp), hrouts, if_pos hm]
end Go.Proofs.YtdldochhondifaaGreatDoor
namespace Go.Proofs.YtdldochhondifaaGreatDoor
open Go Go.RowKit Go.Lib

theorem img_facts {gs : List Glob} {rs : List Rout} (h : (machF gs rs).1 = 0) (hgo : GOk gs) (hgi : GIn gs) (hro : ROk rs) :
    (∀ g ∈ gs, nameS g.name = true ∧ I64 g.size ∧ ∀ n ∈ g.init, I64 n) ∧ (∀ r ∈ rs, RoutFine rs r) ∧ (∀ (i j : Nat) (a b : Rout), rs[i]? = some a → rs[j]? = some b → i < j → a.name ≠ b.name) := by
  have hok := img_ok h hgo hgi hro
  obtain ⟨hg, h0, hl, hb⟩ := machF_zeroA h
  have hgb : ∀ j, j < gs.length → gBadAt gs j = 0 := by
    unfold globF at hg
    rw [if_neg (by have := hok.gl; omega)] at hg
    exact firstBad_zeroA hg
  have hrb : ∀ (j : Nat) (r : Rout), rs[j]? = some r → nameS r.name = true ∧ rHadR (rs.take j) r.name = false ∧ (readL r.code).1.1 = 0 := fun j r hj => by
    have h1 := hb j (List.getElem?_eq_some_iff.1 hj).1
    unfold rBadAt at h1
    rw [hj] at h1
    simp only [rBad] at h1
    split at h1
    · cases h1
    rename_i hn
    split at h1
    · cases h1
    rename_i hd
    split at h1
    · cases h1
    rename_i hc
    refine ⟨?_, ?_, by simpa using hc⟩
    · unfold rNameBad at hn
      simp only [Bool.or_eq_true, not_or, Bool.not_eq_true', Bool.not_eq_true] at hn
      simpa using hn.1
    · simp only [Bool.or_eq_true, not_or, Bool.not_eq_true] at hd
      exact hd.2
  refine ⟨fun g hm => ?_, fun r hm => ?_, fun i j a b hi hj hij e => ?_⟩
  · obtain ⟨j, hj⟩ := List.mem_iff_getElem?.1 hm
    have h1 := hgb j (List.getElem?_eq_some_iff.1 hj).1
    unfold gBadAt at h1
    rw [hj] at h1
    simp only [gBad] at h1
    split at h1
    · cases h1
    rename_i hn
    exact ⟨by simpa using hn, (hgo g hm).2, hgi g hm⟩
  · obtain ⟨j, hj⟩ := List.mem_iff_getElem?.1 hm
    obtain ⟨n1, _, n3⟩ := hrb j r hj
    obtain ⟨k1, k2, k3, k4, _⟩ := readL_back (hro r hm).2 n3
    obtain ⟨_, _, m3, m4⟩ := hok.code r hm
    refine ⟨n1, k2, m3, m4, ?_⟩
    unfold codeL at k3
    rw [if_pos k2] at k3
    exact k3
  · obtain ⟨_, n2, _⟩ := hrb j b hj
    have hlt := (List.getElem?_eq_some_iff.1 hi).1
    unfold rHadR at n2
    rw [List.any_eq_false] at n2
    have hmem : a ∈ rs.take j := List.mem_of_getElem? (by rw [List.getElem?_take, if_pos hij]; exact hi)
    exact n2 a hmem (by rw [e]; simp)
/-- The text of an image is not empty. -/
theorem apart_ne {gs : List Glob} {rs : List Rout} (h : 0 < rs.length) : apartL gs rs ≠ [] := by
  intro e
  unfold apartL at e
  rw [List.append_eq_nil_iff] at e
  have h1 := e.2
  cases rs with
  | nil => simp at h
  | cons r rs =>
    unfold routsTo at h1
    rw [List.take_length, List.map_cons, List.flatten_cons, List.append_eq_nil_iff] at h1
    have h2 := h1.1
    unfold routL routHead at h2
    simp at h2
end Go.Proofs.YtdldochhondifaaGreatDoor
