/-
  PLAIN: the text of code reads back as that code (readP), in whatever spread.
  Conditions: the code has no fault; the text has no more than 80000 bytes.
-/
import Derived.Test.YtdldochhondifaaGreatDoorAuB
namespace Go.Proofs.YtdldochhondifaaGreatDoor
open Go Go.RowKit Go.Lib

/-- Lines read one behind the other, without a fault. -/
def Walks {S : Type} (f : S → List UInt8 → Int × S) : S → List (List UInt8) → S → Prop
  | a, [], b => a = b
  | a, l :: ls, b => (l = [] ∧ Walks f a ls b) ∨ (l ≠ [] ∧ (f a l).1 = 0 ∧ Walks f (f a l).2 ls b)
theorem Walks.app {S : Type} {f : S → List UInt8 → Int × S} : ∀ {xs ys : List (List UInt8)} {a b c : S}, Walks f a xs b → Walks f b ys c → Walks f a (xs ++ ys) c
  | [], ys, a, b, c, h, h' => by cases h; exact h'
  | x :: xs, ys, a, b, c, h, h' => by
    rcases h with ⟨e, h⟩ | ⟨e, e0, h⟩
    · exact .inl ⟨e, h.app h'⟩
    · exact .inr ⟨e, e0, h.app h'⟩
theorem Walks.blank {S : Type} (f : S → List UInt8 → Int × S) (a : S) : ∀ k : Nat, Walks f a (List.replicate k []) a
  | 0 => rfl
  | k + 1 => .inl ⟨rfl, Walks.blank f a k⟩
theorem Walks.line {S : Type} {f : S → List UInt8 → Int × S} {a b : S} {s : List UInt8} (hs : s ≠ []) (h : f a s = (0, b)) (k : Nat) : Walks f a (s :: List.replicate k []) b :=
  .inr ⟨hs, by rw [h], by rw [h]; exact Walks.blank f b k⟩
theorem Walks.steps {nb : Bool} : ∀ {ls : List (List UInt8)} {a b : PSt}, Walks (lineP nb) a ls b → ∀ (i : Nat) (r : List (List UInt8)), ∃ j, stepsP nb i a (ls ++ r) = stepsP nb j b r
  | [], a, b, h, i, r => by cases h; exact ⟨i, rfl⟩
  | l :: ls, a, b, h, i, r => by
    rw [List.cons_append, stepsP]
    rcases h with ⟨e, h⟩ | ⟨e, e0, h⟩
    · rw [if_pos e]
      exact h.steps (i + 1) r
    · rw [if_neg e, if_pos e0]
      exact h.steps (i + 1) r

def labsTo (l : List Mac) (k : Nat) : List (Int × Nat) := ((List.range k).filter (markL l)).map fun (i : Nat) => ((i : Int), i)
def stTo (nb : Bool) (rt : Int → List UInt8) (l : List Mac) (k : Nat) : PSt := ⟨(l.take k).map (insOf nb rt), labsTo l k⟩
theorem labs_mem {l : List Mac} {k : Nat} {x : Int × Nat} (h : x ∈ labsTo l k) : x.1 = (x.2 : Int) ∧ x.2 < k := by
  unfold labsTo at h
  obtain ⟨i, hi, rfl⟩ := List.mem_map.1 h
  rw [List.mem_filter, List.mem_range] at hi
  exact ⟨rfl, hi.1⟩
theorem labs_succ (l : List Mac) (k : Nat) : labsTo l (k + 1) = labsTo l k ++ (if markL l k = true then [((k : Int), k)] else []) := by
  unfold labsTo
  rw [List.range_succ, List.filter_append, List.map_append]
  congr 1
  rw [List.filter_cons]
  split <;> simp
theorem text_reads {nb : Bool} {rt : Int → List UInt8} {l : List Mac} (hl : l.length ≤ 5000) (hm : ∀ m ∈ l, TellOk nb rt m) : ∀ k, k ≤ l.length → ∀ w, Spread (textTo rt l k) w →
    ∃ ls, Lines w ls ∧ Walks (lineP nb) ⟨[], []⟩ ls (stTo nb rt l k) ∧ ∀ s ∈ ls, s ≠ [] → wordP s ≠ globalW ∧ wordP s ≠ routineW
  | 0, _, w, hw => by
    rw [textTo_zero] at hw
    cases hw
    exact ⟨[], Lines.nil, rfl, by simp⟩
  | k + 1, hk, w, hw => by
    rw [textTo_succ] at hw
    obtain ⟨u, v, rfl, hu, hv⟩ := hw.parts
    obtain ⟨ls, h1, h2, h3⟩ := text_reads hl hm k (by omega) u hu
    have hg : l.getD k ⟨0, 0, 0, 0, 0⟩ = l[k] := by rw [List.getD_eq_getElem?_getD, List.getElem?_eq_getElem (by omega)]; rfl
    unfold pieceL at hv
    rw [hg] at hv
    obtain ⟨a, b, rfl, ha, hb⟩ := hv.parts
    obtain ⟨s, j, s0, s1, s2, s3⟩ := line_reads (hm l[k] (List.getElem_mem (by omega))) hb
    have hwd := (word_wd (hm l[k] (List.getElem_mem (by omega))).op).2
    have hcode : (l.take (k + 1)).map (insOf nb rt) = (l.take k).map (insOf nb rt) ++ [insOf nb rt l[k]] := by
      rw [List.take_succ_eq_append_getElem (by omega), List.map_append]
      rfl
    have hlen : (stTo nb rt l k).code.length = k := by
      show ((l.take k).map (insOf nb rt)).length = k
      rw [List.length_map, List.length_take]
      omega
    by_cases hmk : markL l k = true
    · rw [if_pos hmk] at ha
      obtain ⟨t, i, t0, t1, t2, t3⟩ := label_reads nb (show k < 10000 by omega) ha
      have hst := t2 (stTo nb rt l k) (fun x hx e => by
        have := labs_mem hx
        omega)
      rw [hlen] at hst
      have hfin : (⟨(stTo nb rt l k).code ++ [insOf nb rt l[k]], (stTo nb rt l k).labs ++ [((k : Int), k)]⟩ : PSt) = stTo nb rt l (k + 1) := by
        unfold stTo
        rw [labs_succ, if_pos hmk, hcode]
      refine ⟨ls ++ ((t :: List.replicate i []) ++ (s :: List.replicate j [])), h1.app (t1.app s1), h2.app ((Walks.line t0 hst i).app (Walks.line s0 (by rw [s2]; exact congrArg _ hfin) j)), fun x hx hx0 => ?_⟩
      rcases List.mem_append.1 hx with h | h
      · exact h3 x h hx0
      rcases List.mem_append.1 h with h | h
      · rcases List.mem_cons.1 h with rfl | h
        · exact t3
        · exact absurd (List.mem_replicate.1 h).2 hx0
      · rcases List.mem_cons.1 h with rfl | h
        · rw [s3]; exact hwd
        · exact absurd (List.mem_replicate.1 h).2 hx0
    · rw [if_neg hmk] at ha
      cases ha
      rw [List.nil_append]
      have hfin : (⟨(stTo nb rt l k).code ++ [insOf nb rt l[k]], (stTo nb rt l k).labs⟩ : PSt) = stTo nb rt l (k + 1) := by
        unfold stTo
        rw [labs_succ, if_neg hmk, hcode, List.append_nil]
      refine ⟨ls ++ (s :: List.replicate j []), h1.app s1, h2.app (Walks.line s0 (by rw [s2]; exact congrArg _ hfin) j), fun x hx hx0 => ?_⟩
      rcases List.mem_append.1 hx with h | h
      · exact h3 x h hx0
      · rcases List.mem_cons.1 h with rfl | h
        · rw [s3]; exact hwd
        · exact absurd (List.mem_replicate.1 h).2 hx0

/-! Where the goals lie. -/
theorem place_to {l : List Mac} {k i : Nat} (hi : i < k) (hm : markL l i = true) : placeP (labsTo l k) (i : Int) = some i := by
  unfold placeP
  cases hf : (labsTo l k).reverse.find? (fun x => x.1 == (i : Int)) with
  | none =>
    rw [List.find?_eq_none] at hf
    have hin : ((i : Int), i) ∈ (labsTo l k).reverse := by
      rw [List.mem_reverse]
      unfold labsTo
      exact List.mem_map.2 ⟨i, by rw [List.mem_filter, List.mem_range]; exact ⟨hi, hm⟩, rfl⟩
    exact absurd (by simp) (hf _ hin)
  | some x =>
    have h1 := List.find?_some hf
    have h2 := labs_mem (List.mem_reverse.1 (List.mem_of_find?_eq_some hf))
    simp only [beq_iff_eq] at h1
    rw [Option.map_some]
    congr 1
    omega
/-- A call that is told by a name has no number yet. -/
def unCall (nb : Bool) (m : Mac) : Mac := if shK m.op = 4 ∧ nb = true then { m with n := 0 } else m
theorem settle_text {nb : Bool} {rt : Int → List UInt8} {l : List Mac} (hg : ∀ m ∈ l, shK m.op = 2 → 0 ≤ m.n ∧ m.n < (l.length : Int)) :
    settleP (stTo nb rt l l.length) = none ∧ settled (stTo nb rt l l.length) = l.map (unCall nb) := by
  have hplace : ∀ m ∈ l, shK m.op = 2 → placeP (labsTo l l.length) m.n = some m.n.toNat := fun m hm hk => by
    obtain ⟨h0, h1⟩ := hg m hm hk
    have hmk : markL l m.n.toNat = true := by
      unfold markL
      rw [List.any_eq_true]
      exact ⟨m, hm, by simp [hk]; omega⟩
    have := place_to (l := l) (k := l.length) (i := m.n.toNat) (by omega) hmk
    rwa [Int.toNat_of_nonneg h0] at this
  have hcl : (stTo nb rt l l.length).code = l.map (insOf nb rt) := by
    unfold stTo
    simp only
    rw [List.take_length]
  constructor
  · unfold settleP
    rw [List.findIdx?_eq_none_iff, hcl]
    intro x hx
    obtain ⟨m, hm, rfl⟩ := List.mem_map.1 hx
    unfold lostP insOf
    simp only
    by_cases hk : shK m.op = 2
    · rw [if_pos hk]
      simp only
      rw [show (stTo nb rt l l.length).labs = labsTo l l.length from rfl, hplace m hm hk]
      simp only [decide_eq_false_iff_not, List.length_map]
      have := hg m hm hk
      omega
    · rw [if_neg hk]
  · unfold settled
    rw [hcl, List.map_map]
    refine List.map_congr_left fun m hm => ?_
    rw [Function.comp_apply]
    unfold setP insOf unCall
    simp only
    by_cases hk : shK m.op = 2
    · rw [if_pos hk, if_pos (.inl hk), if_neg (by rw [hk]; simp)]
      simp only
      rw [show (stTo nb rt l l.length).labs = labsTo l l.length from rfl, hplace m hm hk, Option.getD_some, Int.toNat_of_nonneg (hg m hm hk).1]
    · rw [if_neg hk]
      by_cases h4 : shK m.op = 4 ∧ nb = true
      · rw [if_pos (.inr h4), if_pos h4]
      · rw [if_neg (fun h => h.elim hk h4), if_neg h4]
/-- An instruction without fault can be told. -/
theorem tell_of {nb : Bool} {rt : Int → List UInt8} {m : Mac} {many : Int} (hok : m.ok) (hmany : many ≤ 5000) (hf : faultS m many = 0)
    (hname : shK m.op = 4 → nb = true → WdL (rt m.n) ∧ nameS (mkS (rt m.n)) = true) (hnum : shK m.op = 4 → nb = false → rt m.n = itoa m.n) :
    TellOk nb rt m ∧ (shK m.op = 2 → 0 ≤ m.n ∧ m.n < many) := by
  obtain ⟨ho, hr, zd, za, zb, hn⟩ := (fault_zero m many).1 hf
  have hz := (zero_of_fault hf).2.2.2
  have hgo : shK m.op = 2 → 0 ≤ m.n ∧ m.n < many := fun hk => by
    rw [hk] at hn
    unfold numberS at hn
    rw [if_neg (by decide), if_neg (by decide), if_neg (by decide), if_neg (by decide)] at hn
    split at hn
    · cases hn
    · omega
  exact ⟨⟨hok, ho, hr, zd, za, zb, hz, fun hk => by have := hgo hk; omega, hname, hnum⟩, hgo⟩
/-- The text of code, in whatever spread, reads back as that code. -/
theorem read_text {l : List Mac} (hc : (checkS l).1 = 0) (hok : ∀ m ∈ l, m.ok) {w : List UInt8} (hw : Spread (textL itoa l) w) (hlen : w.length ≤ 80000) : readP w = (l, (0, 0)) := by
  obtain ⟨hl, hall, _⟩ := (code_ok_iff l).1 hc
  have hf : ∀ m ∈ l, TellOk false itoa m ∧ (shK m.op = 2 → 0 ≤ m.n ∧ m.n < (l.length : Int)) := fun m hm => by
    obtain ⟨j, hj⟩ := List.mem_iff_getElem?.1 hm
    exact tell_of (hok m hm) (by omega) (hall j m hj) (fun _ h => by cases h) (fun _ _ => rfl)
  obtain ⟨ls, h1, h2, _⟩ := text_reads hl (fun m hm => (hf m hm).1) l.length (Nat.le_refl _) w hw
  obtain ⟨s1, s2⟩ := settle_text (nb := false) (rt := itoa) (fun m hm => (hf m hm).2)
  have hs2 : settled (stTo false itoa l l.length) = l := by
    rw [s2]
    have : ∀ m ∈ l, unCall false m = id m := fun m _ => by unfold unCall; rw [if_neg (by simp)]; rfl
    rw [List.map_congr_left this, List.map_id]
  have hlines : linesL w = ls ++ [[]] := by
    have := h1 []
    rw [List.append_nil] at this
    rw [this]
    rfl
  obtain ⟨j, hj⟩ := h2.steps 0 [[]]
  have hst : stepsP false 0 ⟨[], []⟩ (linesL w) = ((0, 0), stTo false itoa l l.length) := by
    rw [hlines, hj]
    rfl
  unfold readP
  rw [if_neg (by omega), hst]
  simp only [ne_eq, not_true_eq_false, if_false]
  rw [s1]
  simp only
  rw [hs2, if_pos hc]
end Go.Proofs.YtdldochhondifaaGreatDoor
