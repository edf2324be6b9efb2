/-
  Texts of the claim AsmWholeSays (AuE AwA AwB Chn AwC): what each proves stands at its theorems.
  Conditions: as the theorems say.
-/
import Derived.Lib.FieldsP
import Derived.Test.YtdldochhondifaaGreatDoorVArR
import Derived.Test.YtdldochhondifaaGreatDoorVMcZ
import Derived.Test.YtdldochhondifaaGreatDoorVArO
import Derived.Test.YtdldochhondifaaGreatDoorVRdP
import Derived.Test.YtdldochhondifaaGreatDoorVArE
import Derived.Test.YtdldochhondifaaGreatDoorVKtC
import Derived.Test.YtdldochhondifaaGreatDoorVLey
import Derived.Test.YtdldochhondifaaGreatDoorVAtB
namespace Go.Proofs.YtdldochhondifaaGreatDoor
open Go Go.RowKit Go.Lib

/-- A line parted by blanks; cur stands ahead of it. -/
def wordsU : List UInt8 → List UInt8 → List (List UInt8)
  | cur, [] => if cur = [] then [] else [cur]
  | cur, c :: l => if bl c = true then (if cur = [] then wordsU [] l else cur :: wordsU [] l) else wordsU (cur ++ [c]) l
def wordsP (s : List UInt8) : List (List UInt8) := wordsU [] s
theorem wordsU_run : ∀ (a cur l : List UInt8), (∀ c ∈ a, bl c = false) → wordsU cur (a ++ l) = wordsU (cur ++ a) l
  | [], cur, l, _ => by simp
  | c :: a, cur, l, h => by
    rw [List.cons_append, wordsU, h c (by simp), if_neg (by simp), wordsU_run a _ l (fun d hd => h d (by simp [hd]))]
    simp
theorem run_nb (s : ByteArray) (pos : Nat) (hl : pos < s.data.toList.length) (h : bl (s.data.toList.getD pos 0) = false) :
    pos + (Utf8.decode s pos).2 ≤ s.data.toList.length ∧ ∀ k, k < (Utf8.decode s pos).2 → bl (s.data.toList.getD (pos + k) 0) = false := by
  by_cases hn : (s.data.toList.getD pos 0).toNat < 128
  · rw [decode_near s pos hn]
    refine ⟨by simp only; omega, fun k hk => ?_⟩
    obtain rfl : k = 0 := by simp only at hk; omega
    exact h
  · have hf := decode_far s pos (by omega)
    refine ⟨hf.2.1 hl, fun k hk => ?_⟩
    have := hf.2.2 k hk
    cases hb : bl (s.data.toList.getD (pos + k) 0) with
    | false => rfl
    | true => have := bl_small hb; omega
theorem bl_one (s : ByteArray) (pos : Nat) (h : bl (s.data.toList.getD pos 0) = true) : (Utf8.decode s pos).2 = 1 := by
  rw [decode_near s pos (bl_small h)]
theorem extract_list (s : ByteArray) (a b : Nat) : (s.extract a b).data.toList = (s.data.toList.drop a).take (b - a) := by
  rw [ByteArray.data_extract, Array.toList_extract, List.extract_eq_take_drop]
theorem take_more (l : List UInt8) (a p k : Nat) (ha : a ≤ p) : (l.drop a).take (p + k - a) = (l.drop a).take (p - a) ++ (l.drop p).take k := by
  rw [show p + k - a = (p - a) + k by omega, List.take_add, List.drop_drop, show a + (p - a) = p by omega]
/-- What stands ahead of a place in a word that has begun. -/
def nowW (l : List UInt8) (pos : Nat) : Option Nat → List UInt8
  | some a => (l.drop a).take (pos - a)
  | none => []
theorem fields_from (s : ByteArray) : ∀ (f pos : Nat) (st : Option Nat) (acc : List (Nat × Nat)), s.data.toList.length ≤ pos + f → pos ≤ s.data.toList.length → (∀ a, st = some a → a < pos) →
    (closeSpans s (spansFromP blR s f pos st acc)).map (fun x => (s.extract x.1 x.2).data.toList) = acc.map (fun x => (s.extract x.1 x.2).data.toList) ++ wordsU (nowW s.data.toList pos st) (s.data.toList.drop pos)
  | f, pos, st, acc, h, hp, hst => by
    by_cases hl : pos < s.data.toList.length
    · cases f with
      | zero => omega
      | succ f =>
        unfold spansFromP
        rw [if_pos (by rw [size_eq]; exact hl), decode_bl]
        cases hb : bl (s.data.toList.getD pos 0) with
        | true =>
          rw [if_pos rfl, bl_one s pos hb, getD_drop0 _ _ hl, wordsU, if_pos hb]
          cases st with
          | none =>
            simp only
            rw [fields_from s f (pos + 1) none acc (by omega) (by omega) (by simp)]
            unfold nowW
            rw [if_pos rfl]
          | some a =>
            have ha := hst a rfl
            simp only
            rw [fields_from s f (pos + 1) none _ (by omega) (by omega) (by simp), if_neg]
            · unfold nowW
              rw [List.map_append, List.append_assoc]
              simp only [List.map_cons, List.map_nil, extract_list, List.singleton_append]
            · unfold nowW
              intro e
              have := congrArg List.length e
              rw [List.length_take, List.length_drop, List.length_nil] at this
              omega
        | false =>
          obtain ⟨h1, h2⟩ := run_nb s pos hl hb
          have hw := width_pos s pos
          have hrun : ∀ cur, wordsU cur (s.data.toList.drop pos) = wordsU (cur ++ (s.data.toList.drop pos).take (Utf8.decode s pos).2) (s.data.toList.drop (pos + (Utf8.decode s pos).2)) := fun cur => by
            rw [← List.drop_drop, ← wordsU_run _ cur _ (fun c hc => ?_), List.take_append_drop]
            obtain ⟨k, hk⟩ := List.mem_iff_getElem?.1 hc
            have hk1 := (List.getElem?_eq_some_iff.1 hk).1
            rw [List.length_take] at hk1
            rw [List.getElem?_take, if_pos (by omega), List.getElem?_drop] at hk
            have := h2 k (by omega)
            rw [List.getD_eq_getElem?_getD, hk] at this
            exact this
          rw [if_neg (by simp), hrun]
          cases st with
          | none =>
            simp only
            rw [fields_from s f (pos + (Utf8.decode s pos).2) (some pos) acc (by omega) h1 (fun a e => by cases e; omega)]
            unfold nowW
            simp only
            rw [List.nil_append, show pos + (Utf8.decode s pos).2 - pos = (Utf8.decode s pos).2 by omega]
          | some a =>
            have ha := hst a rfl
            simp only
            rw [fields_from s f (pos + (Utf8.decode s pos).2) (some a) acc (by omega) h1 (fun b e => by cases e; omega)]
            unfold nowW
            simp only
            rw [take_more _ a pos _ (by omega)]
    · rw [spansFromP_end blR s f pos st acc (by rw [size_eq]; exact hl), List.drop_eq_nil_of_le (by omega)]
      cases st with
      | none =>
        unfold closeSpans nowW
        simp [wordsU]
      | some a =>
        have ha := hst a rfl
        have he : pos = s.data.toList.length := by omega
        unfold closeSpans nowW
        simp only
        rw [wordsU, if_neg]
        · rw [List.map_append]
          simp only [List.map_cons, List.map_nil, extract_list]
          rw [size_eq, he]
        · intro e
          have := congrArg List.length e
          rw [List.length_take, List.length_drop, List.length_nil] at this
          omega
/-- What strings.FieldsFunc(s, blank) answers. -/
theorem fields_bl (s : ByteArray) : (goFieldsP blR s).map (fun x => x.data.toList) = wordsP s.data.toList := by
  unfold goFieldsP spansOfP wordsP
  rw [List.map_map]
  have := fields_from s s.size 0 none [] (by rw [size_eq]; omega) (by omega) (by simp)
  rw [List.map_nil, List.nil_append, List.drop_zero] at this
  exact this
theorem wordsU_size : ∀ (l cur : List UInt8), (wordsU cur l).length ≤ l.length + 1 ∧ ∀ x ∈ wordsU cur l, x.length ≤ cur.length + l.length
  | [], cur => by
    rw [wordsU]
    split
    · simp
    · simp
  | a :: l, cur => by
    rw [wordsU]
    have i1 := wordsU_size l []
    have i2 := wordsU_size l (cur ++ [a])
    have e2 : (cur ++ [a]).length = cur.length + 1 := by simp
    have e0 : ([] : List UInt8).length = 0 := rfl
    split
    · split
      · exact ⟨by rw [List.length_cons]; omega, fun x hx => by have := i1.2 x hx; rw [List.length_cons]; omega⟩
      · refine ⟨by rw [List.length_cons, List.length_cons]; omega, fun x hx => ?_⟩
        rcases List.mem_cons.1 hx with rfl | hx
        · omega
        · have := i1.2 x hx
          rw [List.length_cons]
          omega
    · exact ⟨by rw [List.length_cons]; omega, fun x hx => by have := i2.2 x hx; rw [List.length_cons]; omega⟩
/-- A line's first word is what stands ahead of its first blank. -/
theorem words_head {s : List UInt8} (h0 : s ≠ []) (h : ∀ c, s.head? = some c → bl c = false) : ∃ r, wordsP s = s.takeWhile (fun c => !bl c) :: r := by
  have key : ∀ (l cur : List UInt8), (cur ≠ [] ∨ ∃ c, l.head? = some c ∧ bl c = false) → ∃ r, wordsU cur l = (cur ++ l.takeWhile (fun c => !bl c)) :: r := by
    intro l
    induction l with
    | nil =>
      intro cur hc
      rcases hc with hc | ⟨c, hc, _⟩
      · exact ⟨[], by rw [wordsU, if_neg hc]; simp⟩
      · cases hc
    | cons a l ih =>
      intro cur hc
      rw [wordsU, List.takeWhile_cons]
      cases hb : bl a with
      | true =>
        rcases hc with hc | ⟨c, hc, hcb⟩
        · rw [if_pos rfl, if_neg hc]
          exact ⟨wordsU [] l, by simp⟩
        · cases hc
          rw [hb] at hcb
          cases hcb
      | false =>
        rw [if_neg (by simp)]
        obtain ⟨r, hr⟩ := ih (cur ++ [a]) (.inl (by simp))
        exact ⟨r, by rw [hr]; simp⟩
  cases s with
  | nil => exact absurd rfl h0
  | cons a l =>
    obtain ⟨r, hr⟩ := key (a :: l) [] (.inr ⟨a, rfl, h a rfl⟩)
    exact ⟨r, by unfold wordsP; rw [hr]; rfl⟩
end Go.Proofs.YtdldochhondifaaGreatDoor
namespace Go.Proofs.YtdldochhondifaaGreatDoor
open Go Go.RowKit Go.Lib

/-- A routine of a text: its name, what has been read. -/
structure SecP where
  name : List UInt8
  st : PSt
/-- A whole text, read so far. -/
structure WSt where
  globs : List Glob
  secs : List SecP
def globW : List UInt8 := [103, 108, 111, 98, 97, 108]
def routW : List UInt8 := [114, 111, 117, 116, 105, 110, 101]
def numsP : List (List UInt8) → Option (List Int)
  | [] => some []
  | s :: ss => (numI s).bind fun n => (numsP ss).map fun l => n :: l
/-- A global of a line's words. -/
def globP (w : List (List UInt8)) : Option Glob :=
  if 3 ≤ w.length ∧ nameS (mkS (w.getD 1 [])) = true then (numsP (w.drop 2)).map fun l => ⟨mkS (w.getD 1 []), l.headD 0, l.tail⟩ else none
def lastLineP (x : WSt) (s : List UInt8) : Int × WSt :=
  match x.secs.getLast? with
  | none => (1, x)
  | some y => ((lineP true y.st s).1, ⟨x.globs, x.secs.dropLast ++ [⟨y.name, (lineP true y.st s).2⟩]⟩)
def wlineP (x : WSt) (s : List UInt8) : Int × WSt :=
  if (wordsP s).getD 0 [] = globW then
    (if x.secs ≠ [] then (1, x) else match globP (wordsP s) with
      | none => (1, x)
      | some g => (0, ⟨x.globs ++ [g], x.secs⟩))
  else if (wordsP s).getD 0 [] = routW then
    (if (wordsP s).length = 2 ∧ nameS (mkS ((wordsP s).getD 1 [])) = true then (0, ⟨x.globs, x.secs ++ [⟨(wordsP s).getD 1 [], ⟨[], []⟩⟩]⟩) else (1, x))
  else lastLineP x s
def stepsW : Nat → WSt → List (List UInt8) → (Int × Nat) × WSt
  | _, st, [] => ((0, 0), st)
  | i, st, l :: ls =>
    if l = [] then stepsW (i + 1) st ls
    else if (wlineP st l).1 = 0 then stepsW (i + 1) (wlineP st l).2 ls
    else (((wlineP st l).1, i), st)
/-- The routine of a name. -/
def findP (names : List (List UInt8)) (c : List UInt8) : Option Nat := names.findIdx? fun x => x == c
def callLost (names : List (List UInt8)) (x : Ins) : Bool := match x.call with
  | none => false
  | some c => (findP names c).isNone
def linkP (names : List (List UInt8)) (labs : List (Int × Nat)) (x : Ins) : Mac := match x.call with
  | none => setP labs x
  | some c => { setP labs x with n := ((findP names c).getD 0 : Nat) }
def linked (names : List (List UInt8)) (st : PSt) : List Mac := st.code.map (linkP names st.labs)
/-- The code of a routine: a fault's code, or the instructions. -/
def sectP (names : List (List UInt8)) (st : PSt) : Int :=
  if (settleP st).isSome = true then 6 else if st.code.any (callLost names) = true then 6 else (checkS (linked names st)).1
def secNames (l : List SecP) : List (List UInt8) := l.map fun y => y.name
def secBad (l : List SecP) (i : Nat) : Int := match l[i]? with
  | some y => sectP (secNames l) y.st
  | none => 0
def routP (names : List (List UInt8)) (y : SecP) : Rout := ⟨mkS y.name, bytesS (linked names y.st)⟩
def routsP (l : List SecP) : List Rout := l.map (routP (secNames l))
def imgP (x : WSt) : (List Glob × List Rout) × (Int × Int) :=
  if (firstBad (secBad x.secs) x.secs.length).1 ≠ 0 then (([], []), firstBad (secBad x.secs) x.secs.length)
  else if (machF x.globs (routsP x.secs)).1 = 0 then ((x.globs, routsP x.secs), (0, 0)) else (([], []), machF x.globs (routsP x.secs))
def wholeP (text : List UInt8) : (List Glob × List Rout) × (Int × Int) :=
  if 80000 < text.length then (([], []), (2, 0))
  else if (stepsW 0 ⟨[], []⟩ (linesL text)).1.1 ≠ 0 then (([], []), ((stepsW 0 ⟨[], []⟩ (linesL text)).1.1, ((stepsW 0 ⟨[], []⟩ (linesL text)).1.2 : Nat)))
  else imgP (stepsW 0 ⟨[], []⟩ (linesL text)).2

def GlobOk (n : Nat) (g : Glob) : Prop := g.name.size ≤ 12 ∧ I64 g.size ∧ (∀ x ∈ g.init, I64 x) ∧ g.init.length ≤ n
def WOk (x : WSt) (i : Nat) : Prop := x.globs.length ≤ i ∧ x.secs.length ≤ i ∧ (∀ g ∈ x.globs, GlobOk 1000000 g) ∧ ∀ y ∈ x.secs, y.name.length ≤ 12 ∧ StOk y.st i
theorem numsP_ok : ∀ (ss : List (List UInt8)) (l : List Int), numsP ss = some l → l.length = ss.length ∧ ∀ x ∈ l, I64 x
  | [], l, h => by cases h; exact ⟨rfl, by simp⟩
  | s :: ss, l, h => by
    rw [numsP] at h
    obtain ⟨n, hn, h2⟩ := Option.bind_eq_some_iff.1 h
    obtain ⟨l', hl', rfl⟩ := Option.map_eq_some_iff.1 h2
    obtain ⟨i1, i2⟩ := numsP_ok ss l' hl'
    refine ⟨by rw [List.length_cons, List.length_cons, i1], fun x hx => ?_⟩
    rcases List.mem_cons.1 hx with rfl | hx
    · exact (numI_some.1 hn).1
    · exact i2 x hx
theorem name_len {l : List UInt8} (h : nameS (mkS l) = true) : 1 ≤ l.length ∧ l.length ≤ 12 := by
  unfold nameS at h
  rw [Bool.and_eq_true, decide_eq_true_eq, mkS_size] at h
  exact h.1
theorem globP_ok {w : List (List UInt8)} {g : Glob} (h : globP w = some g) : GlobOk w.length g ∧ nameS g.name = true := by
  unfold globP at h
  split at h
  · rename_i hc
    obtain ⟨l, hl, rfl⟩ := Option.map_eq_some_iff.1 h
    obtain ⟨h1, h2⟩ := numsP_ok _ _ hl
    have hn := name_len hc.2
    refine ⟨⟨by simp only [mkS_size]; omega, ?_, fun x hx => h2 x (List.mem_of_mem_tail hx), ?_⟩, hc.2⟩
    · cases l with
      | nil => exact (show I64 0 from ⟨by decide, by decide⟩)
      | cons a l => exact h2 a (by simp)
    · simp only [List.length_tail, h1, List.length_drop]
      omega
  · cases h
theorem StOk.more {st : PSt} {a b : Nat} (h : StOk st a) (hab : a ≤ b) : StOk st b := ⟨h.1, Nat.le_trans h.2.1 hab, Nat.le_trans h.2.2 hab⟩
theorem wline_ok {x : WSt} {s : List UInt8} {i : Nat} (hs : s.length ≤ 900000) (h : WOk x i) : WOk (wlineP x s).2 (i + 1) := by
  obtain ⟨h1, h2, h3, h4⟩ := h
  have hsame : WOk x (i + 1) := ⟨by omega, by omega, h3, fun y hy => ⟨(h4 y hy).1, (h4 y hy).2.more (by omega)⟩⟩
  unfold wlineP
  split
  · split
    · exact hsame
    · split
      · exact hsame
      · rename_i g hg
        refine ⟨by simp only [List.length_append, List.length_cons, List.length_nil]; omega, by simp only; omega, fun g' hg' => ?_, hsame.2.2.2⟩
        rcases List.mem_append.1 hg' with hg' | hg'
        · exact h3 g' hg'
        · rw [List.mem_singleton] at hg'
          subst hg'
          obtain ⟨⟨a, b, c, d⟩, _⟩ := globP_ok hg
          have := (wordsU_size s []).1
          exact ⟨a, b, c, by unfold wordsP at d; omega⟩
  · split
    · split
      · rename_i hc
        refine ⟨by simp only; omega, by simp only [List.length_append, List.length_cons, List.length_nil]; omega, h3, fun y hy => ?_⟩
        rcases List.mem_append.1 hy with hy | hy
        · exact hsame.2.2.2 y hy
        · rw [List.mem_singleton] at hy
          subst hy
          exact ⟨(name_len hc.2).2, fun x hx => by simp at hx, by simp, by simp⟩
      · exact hsame
    · unfold lastLineP
      split
      · exact hsame
      · rename_i y hy
        have hym := List.mem_of_getLast? hy
        refine ⟨by simp only; omega, ?_, h3, fun z hz => ?_⟩
        · simp only [List.length_append, List.length_dropLast, List.length_cons, List.length_nil]
          omega
        · rcases List.mem_append.1 hz with hz | hz
          · exact hsame.2.2.2 z ((List.dropLast_sublist _).subset hz)
          · rw [List.mem_singleton] at hz
            subst hz
            exact ⟨(h4 y hym).1, line_ok (h4 y hym).2⟩
def WStepsTo (L : List (List UInt8)) (i : Nat) (x : WSt) : Prop := stepsW 0 ⟨[], []⟩ L = stepsW i x (L.drop i) ∧ WOk x i
theorem WStepsTo.zero (L : List (List UInt8)) : WStepsTo L 0 ⟨[], []⟩ := ⟨rfl, Nat.le_refl _, Nat.le_refl _, fun g h => by simp at h, fun y h => by simp at h⟩
theorem WStepsTo.done {L : List (List UInt8)} {i : Nat} {x : WSt} (h : WStepsTo L i x) (hi : L.length ≤ i) : stepsW 0 ⟨[], []⟩ L = ((0, 0), x) := by
  rw [h.1, List.drop_eq_nil_of_le hi]
  rfl
theorem WStepsTo.next {L : List (List UInt8)} {i : Nat} {x : WSt} {l : List UInt8} (h : WStepsTo L i x) (hl : L[i]? = some l) (hs : l.length ≤ 900000) :
    (l = [] → WStepsTo L (i + 1) x) ∧ (l ≠ [] → (wlineP x l).1 = 0 → WStepsTo L (i + 1) (wlineP x l).2) ∧ (l ≠ [] → (wlineP x l).1 ≠ 0 → stepsW 0 ⟨[], []⟩ L = (((wlineP x l).1, i), x)) := by
  obtain ⟨h1, h2⟩ := h
  rw [drop_at hl, stepsW] at h1
  refine ⟨fun e => ?_, fun e e0 => ?_, fun e e0 => ?_⟩
  · rw [if_pos e] at h1
    exact ⟨h1, by have := h2.1; omega, by have := h2.2.1; omega, h2.2.2.1, fun y hy => ⟨(h2.2.2.2 y hy).1, (h2.2.2.2 y hy).2.more (by omega)⟩⟩
  · rw [if_neg e, if_pos e0] at h1
    exact ⟨h1, wline_ok hs h2⟩
  · rw [if_neg e, if_neg e0] at h1
    exact h1
end Go.Proofs.YtdldochhondifaaGreatDoor
namespace Go.Proofs.YtdldochhondifaaGreatDoor
open Go.RowKit
attribute [local go_sem] Oper.semAt_some

theorem end_cell2w {P : Program} {fn : Func} {R : Ending → World → Prop} {a : Act} {w : World} {p p' : Tmp} {ty t ty' t' : TypeId} {g g' : Nat} {cs cs' : Array Value} {d d' : TypeDesc} (h : fn.results = #[.cell p ty, .cell p' ty'])
    (hp : a.tmps.getD p undef = .pointer (some ⟨g, 0, none⟩)) (hb : Blk w g t cs) (hu : P.underlying ty = some d) (hd : (match d with | .struct _ | .array _ _ => true | _ => false) = true) (hi : (P.info? ty).map (·.size) = some cs.size)
    (hp' : a.tmps.getD p' undef = .pointer (some ⟨g', 0, none⟩)) (hb' : Blk w g' t' cs') (hu' : P.underlying ty' = some d') (hd' : (match d' with | .struct _ | .array _ _ => true | _ => false) = true) (hi' : (P.info? ty').map (·.size) = some cs'.size)
    (hdf : a.defers = []) (hR : R (.returned (.tuple #[.agg cs, .agg cs'])) w) : bodyPost P fn R .ret a w := by
  refine bodyPost_ret (v := .tuple #[.agg cs, .agg cs']) ?_ hdf hR
  have hq : a.tmps[p]?.getD undef = .pointer (some ⟨g, 0, none⟩) := by simpa using hp
  have hq' : a.tmps[p']?.getD undef = .pointer (some ⟨g', 0, none⟩) := by simpa using hp'
  simp [results, h, hq, hq', asAddr, run_loadVar_row w g t ty cs (0, 0) d hb hu hd hi, run_loadVar_row w g' t' ty' cs' (0, 0) d' hb' hu' hd' hi']

theorem numsP_app : ∀ (a b : List (List UInt8)), numsP (a ++ b) = (numsP a).bind fun l => (numsP b).map fun r => l ++ r
  | [], b => by
    rw [List.nil_append, numsP]
    simp
  | s :: a, b => by
    rw [List.cons_append, numsP, numsP, numsP_app a b]
    cases numI s with
    | none => rfl
    | some n =>
      simp only [Option.bind_some]
      cases numsP a with
      | none => rfl
      | some l =>
        simp only [Option.bind_some, Option.map_some]
        cases numsP b <;> rfl
theorem numsP_snoc {a : List (List UInt8)} {l : List Int} {s : List UInt8} {n : Int} (h : numsP a = some l) (hn : numI s = some n) : numsP (a ++ [s]) = some (l ++ [n]) := by
  rw [numsP_app, h, numsP, hn]
  rfl
theorem numsP_stop {ws : List (List UInt8)} {i : Nat} {s : List UInt8} (hs : ws[i]? = some s) (hn : numI s = none) : numsP ws = none := by
  have hi := (List.getElem?_eq_some_iff.1 hs).1
  have e : ws = ws.take i ++ (s :: ws.drop (i + 1)) := by
    rw [← drop_at hs, List.take_append_drop]
  rw [e, numsP_app, numsP, hn]
  cases numsP (ws.take i) <;> rfl
/-- What asm.global leaves. -/
def GlPost (w : World) (r : Option Glob) (e : Ending) (w' : World) : Prop :=
  ∃ nm sz A n c ok, e = .returned (.tuple #[.agg #[.string nm, .int .i64 sz, .slice A n c], .bool ok]) ∧ r.isSome = ok ∧ ∀ g, r = some g → nm = g.name ∧ sz = g.size ∧ OwnInts w' w.heap.size (.slice A n c) g.init
/-- The global while its numbers are read. -/
structure GNow (w : World) (B g4 : Nat) (nm : List UInt8) (sz : Int) (ns : List Int) (iv : Value) : Prop where
  blk : Blk w g4 79 #[.string (mkS nm), .int .i64 sz, iv]
  own : OwnInts w B iv ns.tail
  head : ns.headD 0 = sz
theorem tail_snoc {l : List Int} {n : Int} (h : l ≠ []) : (l ++ [n]).tail = l.tail ++ [n] ∧ (l ++ [n]).headD 0 = l.headD 0 := by
  cases l with
  | nil => exact absurd rfl h
  | cons a l => exact ⟨rfl, rfl⟩
set_option maxRecDepth 100000 in
set_option maxHeartbeats 4000000 in
theorem global_any (ws : List (List UInt8)) (v : Value) (B : Nat) (w : World) (hv : OwnS w B v ws) (h3 : 3 ≤ ws.length) (hl : ws.length ≤ 1000000) (hsz : ∀ x ∈ ws, x.length ≤ 1000000) (he : Errs w) (hp : Pow w) :
    Calls Tryz.prog 84 #[v] w fun e w' => GlPost w (globP ws) e w' ∧ Below w.heap.size w w' := by
  obtain ⟨m, hm⟩ : ∃ m, ws.length = m := ⟨_, rfl⟩
  obtain ⟨nm, hnm⟩ : ∃ nm, ws[1]? = some nm := ⟨ws[1]'(by omega), List.getElem?_eq_getElem _⟩
  obtain ⟨b, c, rfl, _, hb1, hbc⟩ := hv.at_ hnm
  have hcl : m ≤ c := by
    have := hv.2
    rcases this with ⟨h, _⟩ | ⟨g, cap, cur, e1, _, _, hnc, hcm, _⟩
    · cases h
    · cases e1; unfold maxLen at hcm; omega
  have hc63 : c ≤ 9223372036854775807 := by
    have := hv.2
    rcases this with ⟨h, _⟩ | ⟨g, cap, cur, e1, _, _, _, hcm, _⟩
    · cases h
    · cases e1; unfold maxLen at hcm; omega
  have hwn : nm = ws.getD 1 [] := by rw [List.getD_eq_getElem?_getD, hnm]; rfl
  have HCell : Hid (∀ (k : Nat) (x : List UInt8), ws[k]? = some x → w.cell? ⟨b, k, none⟩ = some (.string (mkS x))) := Lib.hid fun k x hx => by
    obtain ⟨b', c', e, _, _, hh⟩ := hv.at_ hx
    cases e
    exact hh
  have Hb1 := Lib.hid hb1
  have HErr := Lib.hid he
  have HPow := Lib.hid hp
  have Hsz := Lib.hid hsz
  have Hm := Lib.hid hm
  have Hwn := Lib.hid hwn
  rw [hm] at hl h3 ⊢
  obtain ⟨W1, hW1⟩ : ∃ W1, W1 = w.alloc (.cells #[.string ⟨#[]⟩, .int .i64 0, .slice none 0 0] 79) := ⟨_, rfl⟩
  have hz1 : W1.heap.size = w.heap.size + 1 := by rw [hW1]; simp
  have HB1 : Hid (Below w.heap.size w W1) := Lib.hid (by rw [hW1]; exact (Below.refl _ _).alloc (Nat.le_refl _) _)
  have HR1 : Hid (Blk W1 w.heap.size 79 #[.string ⟨#[]⟩, .int .i64 0, .slice none 0 0]) := Lib.hid (by rw [hW1]; exact Blk.new _ _ _)
  have hc1 : W1.cell? ⟨b, 1, none⟩ = some (.string (mkS nm)) := (bcell HB1.out hb1).trans hbc
  clear hv hnm hb1 hbc hsz he hp hm hwn
  go_enter Tryz.func84, Tryz.ntmps84
  go_upto_region 1 with fail
  rw [← hW1]
  clear hW1
  go_upto_region 2 with fail
  have HB2 : Hid (Below w.heap.size w (W1.alloc (.cells #[.string (mkS nm), .int .i64 0, .slice none 0 0] 79))) := Lib.hid (HB1.out.alloc (by omega) _)
  have HG2 : Hid (Blk (W1.alloc (.cells #[.string (mkS nm), .int .i64 0, .slice none 0 0] 79)) W1.heap.size 79 #[.string (mkS nm), .int .i64 0, .slice none 0 0]) := Lib.hid (Blk.new _ _ _)
  have HR2 := Lib.hid (HR1.out.alloc (.cells #[.string (mkS nm), .int .i64 0, .slice none 0 0] 79))
  generalize W1.alloc (.cells #[.string (mkS nm), .int .i64 0, .slice none 0 0] 79) = W2 at *
  obtain ⟨g4, hg4⟩ : ∃ g4, W1.heap.size = g4 := ⟨_, rfl⟩
  rw [hg4] at hz1 HG2
  rw [← hz1]
  have k2 : (2 : Int) ≤ (m : Int) := by omega
  have hc2 : ¬ c = 2 := by omega
  obtain ⟨q, hq⟩ : ∃ q, m = q + 2 := ⟨m - 2, by omega⟩
  subst hq
  go_upto_region 3 with fail
  have HN2 : Hid (GNow W2 w.heap.size g4 nm 0 [] (.slice none 0 0)) := Lib.hid ⟨HG2.out, OwnInts.nil _ _, rfl⟩
  have Hz1 := Lib.hid hz1
  have Hg4 := Lib.hid hg4
  clear hg4 HG2 HB1 HR1 hc1 hc2 k2 hz1
  have k3 : (1 : Int) < ((q + 2 : Nat) : Int) := by omega
  go_loopg [16] q (fun gk iv wx => ∃ (i : Nat) (l : List Int) (sz : Int) (A : Option Addr) (n c' : Nat), iv = .int .i64 (i : Int) ∧ i + gk = q ∧ Hid (numsP ((ws.drop 2).take i) = some l) ∧ Hid (GNow wx w.heap.size g4 nm sz l (.slice A n c')) ∧ Hid (Blk wx w.heap.size 79 #[.string ⟨#[]⟩, .int .i64 0, .slice none 0 0]) ∧ Hid (Below w.heap.size w wx))
  case atStart => exact ⟨0, [], 0, none, 0, 0, rfl, by omega, Lib.hid rfl, HN2, HR2, HB2⟩
  case round =>
    obtain ⟨i, l, sz, A, n, c', rfl, hi, HL, HG, HR, HB⟩ := hrel
    clear HN2 HR2 HB2
    have x0 := HG.out.blk.cell 0
    have x1 := HG.out.blk.cell 1
    have x2 := HG.out.blk.cell 2
    have f0 := HR.out.frozen 0
    have f1 := HR.out.frozen 1
    have f2 := HR.out.frozen 2
    rcases gk with _ | gk
    · obtain rfl : i = q := by omega
      have hall : numsP (ws.drop 2) = some l := by
        have := HL.out
        rwa [List.take_of_length_le (by rw [List.length_drop, Hm.out]; omega)] at this
      have hc1 : wr.cell? ⟨b, 1, none⟩ = some (.string (mkS nm)) := (bcell HB.out Hb1.out).trans (HCell.out 1 nm (by rw [Hwn.out, List.getD_eq_getElem?_getD, List.getElem?_eq_getElem (by rw [Hm.out]; omega)]; rfl))
      have hnl : nm.length ≤ 1000000 := Hsz.out nm (by rw [Hwn.out, List.getD_eq_getElem?_getD, List.getElem?_eq_getElem (by rw [Hm.out]; omega)]; exact List.getElem_mem _)
      have HNm := Lib.hid fun W => Name_any (mkS nm) W (by rw [mkS_size]; omega)
      have HE : Hid (globP ws = if nameS (mkS nm) = true then some ⟨mkS nm, l.headD 0, l.tail⟩ else none) := Lib.hid (by
        unfold globP
        rw [← Hwn.out, hall, Hm.out]
        by_cases h : nameS (mkS nm) = true
        · rw [if_pos ⟨by omega, h⟩, if_pos h]; rfl
        · rw [if_neg (fun e => h e.2), if_neg h])
      have k4 : (1 : Int) < (i : Int) + 2 := by omega
      clear hall hnl
      go_wp2_with fail
      refine wp_region_still_tail 5 (by kernel_rfl) (by kernel_rfl) ?_
      simp only [List.take_succ_cons, List.take_zero, List.drop_succ_cons, List.drop_zero]
      iterate 4 still_step
      still_call ((HNm.out _).mono fun e w' h => by obtain ⟨rfl, rfl⟩ := h; exact ⟨rfl, rfl⟩)
      refine wpStill_nil ?_
      change wpList _ _ _ _ _ wr.drew
      have HG2 : Hid (GNow wr.drew w.heap.size g4 nm sz l (.slice A n c')) := Lib.hid ⟨HG.out.blk, HG.out.own, HG.out.head⟩
      have HR2 : Hid (Blk wr.drew w.heap.size 79 #[.string ⟨#[]⟩, .int .i64 0, .slice none 0 0]) := Lib.hid HR.out
      have HB2 : Hid (Below w.heap.size w wr.drew) := Lib.hid ⟨HB.out.os, HB.out.tape, HB.out.output, HB.out.size, HB.out.block⟩
      have hc2 : wr.drew.cell? ⟨b, 1, none⟩ = some (.string (mkS nm)) := hc1
      clear x0 x1 x2 f0 f1 f2 hc1 HG HR HB
      generalize wr.drew = W3 at *
      have x0 := HG2.out.blk.cell 0
      have x1 := HG2.out.blk.cell 1
      have x2 := HG2.out.blk.cell 2
      have f0 := HR2.out.frozen 0
      have f1 := HR2.out.frozen 1
      have f2 := HR2.out.frozen 2
      have y0 := HR2.out.cell 0
      have y1 := HR2.out.cell 1
      have y2 := HR2.out.cell 2
      obtain ⟨ok, hok⟩ : ∃ ok, nameS (mkS nm) = ok := ⟨_, rfl⟩
      have Hok := Lib.hid hok
      rw [hok]
      clear hok HNm
      go_wp2_with fail
      refine end_cell_tmp rfl rfl (((HR2.out.set_ 0 (.string (mkS nm))).set_ 1 (.int .i64 sz)).set_ 2 (.slice A n c')) Tryz.underlying79 rfl (by kernel_rfl) rfl ⟨⟨mkS nm, sz, A, n, c', ok, rfl, ?_, fun g hg => ?_⟩, ?_⟩
      · rw [HE.out, Hok.out]; cases ok <;> rfl
      · rw [HE.out, Hok.out] at hg
        cases ok with
        | false => cases hg
        | true =>
          cases hg
          refine ⟨rfl, HG2.out.head.symm, own_at HG2.out.own fun k hk => ?_⟩
          have hne : k ≠ w.heap.size := fun e => ownBlk_ne HG2.out.own HR2.out (by decide) (e ▸ hk)
          exact (Below.heap_setCell _ ⟨w.heap.size, 2, none⟩ _ k hne).trans ((Below.heap_setCell _ ⟨w.heap.size, 1, none⟩ _ k hne).trans (Below.heap_setCell _ ⟨w.heap.size, 0, none⟩ _ k hne))
      · exact ((HB2.out.setCell (Nat.le_refl _) _).setCell (Nat.le_refl _) _).setCell (Nat.le_refl _) _
    · have hil : i < q := by omega
      obtain ⟨x, hx⟩ : ∃ x, ws[i + 2]? = some x := ⟨ws[i + 2]'(by rw [Hm.out]; omega), List.getElem?_eq_getElem _⟩
      have hcx : wr.cell? ⟨b, 2 + i, none⟩ = some (.string (mkS x)) := (bcell HB.out Hb1.out).trans (by rw [Nat.add_comm 2 i]; exact HCell.out _ x hx)
      have k0 : (0 : Int) ≤ (i : Int) := Int.natCast_nonneg i
      have k1 : (i : Int) < (q : Int) := by omega
      have HNu := Lib.hid (numeral_any x (by have := Hsz.out x (List.mem_of_getElem? hx); omega) wr (HErr.out.own HB.out) (HPow.out.own HB.out))
      have hdx : (ws.drop 2)[i]? = some x := by rw [List.getElem?_drop, Nat.add_comm 2 i]; exact hx
      have Hdx := Lib.hid hdx
      clear hx hdx
      go_wp2_with fail
      refine HNu.out.mono ?_
      rintro e W3 ⟨⟨r, ok, hr, rfl, hd⟩, hb3⟩
      have HD := Lib.hid hd
      have HrI := Lib.hid hr
      have HG3 : Hid (GNow W3 w.heap.size g4 nm sz l (.slice A n c')) := Lib.hid ⟨HG.out.blk.below hb3 HG.out.blk.lt, HG.out.own.below hb3 rfl, HG.out.head⟩
      have HR3 := Lib.hid (HR.out.below hb3 HR.out.lt)
      have HB3 := Lib.hid (HB.out.trans (hb3.mono HB.out.size))
      clear hd hr hb3 HNu HG HR HB x0 x1 x2 f0 f1 f2 hcx
      have x0 := HG3.out.blk.cell 0
      have x1 := HG3.out.blk.cell 1
      have x2 := HG3.out.blk.cell 2
      have z1 := HG3.out.blk.frozen 1
      have z2 := HG3.out.blk.frozen 2
      cases ok with
      | false =>
        have hnone : globP ws = none := by
          unfold globP
          split
          · rw [numsP_stop Hdx.out (by rw [HD.out]; rfl)]
            rfl
          · rfl
        have HE := Lib.hid hnone
        have f0 := HR3.out.frozen 0
        have f1 := HR3.out.frozen 1
        have f2 := HR3.out.frozen 2
        have y0 := HR3.out.cell 0
        have y1 := HR3.out.cell 1
        have y2 := HR3.out.cell 2
        clear hnone
        go_wp2_with fail
        refine end_cell_tmp rfl rfl (((HR3.out.set_ 0 (.string (mkS nm))).set_ 1 (.int .i64 sz)).set_ 2 (.slice A n c')) Tryz.underlying79 rfl (by kernel_rfl) rfl ⟨⟨mkS nm, sz, A, n, c', false, rfl, by rw [HE.out]; rfl, fun g hg => by rw [HE.out] at hg; cases hg⟩, ?_⟩
        exact ((HB3.out.setCell (Nat.le_refl _) _).setCell (Nat.le_refl _) _).setCell (Nat.le_refl _) _
      | true =>
        have hnum : numI x = some r := by rw [HD.out, if_pos rfl]
        have HL2 : Hid (numsP ((ws.drop 2).take (i + 1)) = some (l ++ [r])) := Lib.hid (by rw [List.take_add_one, Hdx.out]; exact numsP_snoc HL.out hnum)
        have HLl : Hid (l.length = i) := Lib.hid (by rw [(numsP_ok _ _ HL.out).1, List.length_take, List.length_drop, Hm.out]; omega)
        clear hnum
        by_cases h0 : i = 0
        · subst h0
          have hl0 : l = [] := List.eq_nil_of_length_eq_zero HLl.out
          subst hl0
          have HG4 : Hid (GNow (W3.setCell ⟨g4, 1, none⟩ (.int .i64 r)) w.heap.size g4 nm r ([] ++ [r]) (.slice A n c')) := Lib.hid ⟨HG3.out.blk.set_ 1 _, own_at HG3.out.own fun k hk => Below.heap_setCell W3 ⟨g4, 1, none⟩ _ k (by intro e; subst e; exact ownBlk_ne HG3.out.own HG3.out.blk (by decide) hk), rfl⟩
          have HR4 : Hid (Blk (W3.setCell ⟨g4, 1, none⟩ (.int .i64 r)) w.heap.size 79 #[.string ⟨#[]⟩, .int .i64 0, .slice none 0 0]) := Lib.hid (HR3.out.far (by show w.heap.size ≠ g4; have := Hz1.out; omega) _)
          have HB4 : Hid (Below w.heap.size w (W3.setCell ⟨g4, 1, none⟩ (.int .i64 r))) := Lib.hid (HB3.out.setCell (by show w.heap.size ≤ g4; have := Hz1.out; omega) _)
          clear HG3 HR3 HB3
          go_wp2_with fail
          go_roundg gk
          case measure => omega
          case rel => exact ⟨0 + 1, [] ++ [r], r, A, n, c', by go_num, by omega, HL2, HG4, HR4, HB4⟩
        · have hi0 : ((i : Int) == 0) = false := by rw [beq_eq_false_iff_ne]; omega
          have hlne : l ≠ [] := fun e => h0 (by rw [← HLl.out, e]; rfl)
          obtain ⟨tn, htn⟩ : ∃ tn, l.tail.length = tn := ⟨_, rfl⟩
          have Htn := Lib.hid htn
          have HOw : Hid (W3.ownsRow w.heap.size 3 1 (.slice A n c') tn (l.tail.map (Value.int .i64))) := Lib.hid (by rw [← htn]; exact HG3.out.own)
          have HBz := Lib.hid HB3.out.size
          have HBl : Hid (Blk W3 g4 79 #[.string (mkS nm), .int .i64 sz, .slice A n c']) := Lib.hid HG3.out.blk
          have hlen2 : tn ≤ 1000000 := by rw [← htn, List.length_tail, HLl.out]; omega
          have Hln2 := Lib.hid hlen2
          have Hlne := Lib.hid hlne
          have Hh0 := Lib.hid h0
          clear hlne h0 htn
          go_upto_region 6 with fail
          go_wp2_with (at_builtin; refine app_one rfl _ _ 29 3 rfl (.int .i64 0) 1 8 Tryz.underlying29 infoInt rfl (by decide) (by decide) w.heap.size _ _ _ (by rfl) HOw.out _ [.int .i64 r] (by rfl) rfl (fun x hx => by simp at hx; subst hx; rfl) rfl (by have := Hln2.out; omega) HBz.out ?_; intro v5 w5 HA5; obtain ⟨B4, c4, e4⟩ := row_form HA5.out.own; subst e4; have hb5 := HA5.out.blk HOw.out HBl.out (by decide); have m2b := hb5.cell 2; have f2b := hb5.frozen 2; simp only [List.getElem?_toArray, List.getElem?_cons_succ, List.getElem?_cons_zero] at m2b)
          have HG5 : Hid (GNow (w5.setCell ⟨g4, 2, none⟩ (.slice B4 (tn + 1) c4)) w.heap.size g4 nm sz (l ++ [r]) (.slice B4 (tn + 1) c4)) := Lib.hid (by
            obtain ⟨e1, e2⟩ := tail_snoc (n := r) Hlne.out
            have ho : OwnInts w5 w.heap.size (.slice B4 (tn + 1) c4) (l.tail ++ [r]) := OwnInts.snoc (by rw [Htn.out]; exact HA5.out.own)
            refine ⟨hb5.set_ 2 _, ?_, by rw [e2]; exact HG3.out.head⟩
            rw [e1]
            exact own_at ho fun k hk => Below.heap_setCell w5 ⟨g4, 2, none⟩ _ k (by intro e; subst e; exact ownBlk_ne ho hb5 (by decide) hk))
          have HR5 : Hid (Blk (w5.setCell ⟨g4, 2, none⟩ (.slice B4 (tn + 1) c4)) w.heap.size 79 #[.string ⟨#[]⟩, .int .i64 0, .slice none 0 0]) := Lib.hid ((HA5.out.blk HOw.out HR3.out (by decide)).far (by show w.heap.size ≠ g4; have := Hz1.out; omega) _)
          have HB5 : Hid (Below w.heap.size w (w5.setCell ⟨g4, 2, none⟩ (.slice B4 (tn + 1) c4))) := Lib.hid ((HB3.out.trans HA5.out.below).setCell (by show w.heap.size ≤ g4; have := Hz1.out; omega) _)
          go_roundg gk
          case measure => omega
          case rel => exact ⟨i + 1, l ++ [r], sz, _, _, _, by go_num, by omega, HL2, HG5, HR5, HB5⟩
end Go.Proofs.YtdldochhondifaaGreatDoor
namespace Go.Proofs.YtdldochhondifaaGreatDoor
theorem nodup_at {α : Type} {l : List α} (h : l.Nodup) {i j : Nat} {a : α} (hi : l[i]? = some a) (hj : l[j]? = some a) : i = j := by
  obtain ⟨i1, i2⟩ := List.getElem?_eq_some_iff.1 hi
  obtain ⟨j1, j2⟩ := List.getElem?_eq_some_iff.1 hj
  rcases Nat.lt_trichotomy i j with e | e | e
  · exact absurd (i2.trans j2.symm) (List.pairwise_iff_getElem.1 h i j i1 j1 e)
  · exact e
  · exact absurd (j2.trans i2.symm) (List.pairwise_iff_getElem.1 h j i j1 i1 e)
/-- A region that draws its order and in which the operations ks write, one behind the other: the worlds between. -/
def Chain (ks : List Nat) (Vs : List World) (L : Array Bool) (w : World) : Prop := ∃ i : Nat, Vs[i]? = some w ∧ ∀ j k, ks[j]? = some k → (L.getD k false = true ↔ j < i)
section
variable {ks : List Nat} {Vs : List World} {L : Array Bool} {w V V' : World} {j k : Nat}
theorem Chain.start {n : Nat} (h : Vs[0]? = some w) : Chain ks Vs (Array.replicate n false) w := by
  refine ⟨0, h, fun j k _ => ?_⟩
  have h : (Array.replicate n false).getD k false = false := by
    simp only [Array.getD_eq_getD_getElem?]
    rcases Nat.lt_or_ge k n with h | h
    · rw [Array.getElem?_eq_getElem (by simpa using h)]; simp
    · rw [Array.getElem?_eq_none (by simpa using h)]; rfl
  rw [h]
  simp
theorem Chain.keep (h : Chain ks Vs L w) (k : Nat) (hk : k ∉ ks) : Chain ks Vs (L.setIfInBounds k true) w := by
  obtain ⟨i, h1, h2⟩ := h
  refine ⟨i, h1, fun j k' hj => ?_⟩
  rw [getD_set_ne L k k' (fun e => hk (e ▸ List.mem_of_getElem? hj))]
  exact h2 j k' hj
theorem Chain.at_ (h : Chain ks Vs L w) (hj : ks[j]? = some k) (hL : L.getD k true = false) (hn : ks.Nodup) (hp : ∀ k', j ≠ 0 → ks[j - 1]? = some k' → L.getD k' false = true) (hV : Vs[j]? = some V) (hV' : Vs[j + 1]? = some V') :
    V = w ∧ Chain ks Vs (L.setIfInBounds k true) V' := by
  obtain ⟨i, h1, h2⟩ := h
  have hi1 : ¬ j < i := fun e => by
    have := (h2 j k hj).2 e
    rw [getD_false L k hL] at this
    cases this
  have hjl := (List.getElem?_eq_some_iff.1 hj).1
  have hij : i = j := by
    rcases Nat.eq_zero_or_pos j with e | e
    · omega
    · obtain ⟨k', hk'⟩ : ∃ k', ks[j - 1]? = some k' := ⟨_, List.getElem?_eq_getElem (show j - 1 < ks.length by omega)⟩
      have := (h2 (j - 1) k' hk').1 (hp k' (by omega) hk')
      omega
  subst hij
  rw [hV] at h1
  refine ⟨Option.some.inj h1, i + 1, hV', fun j' k' hj' => ?_⟩
  by_cases e : k' = k
  · subst e
    rw [getD_set_eq L k' hL]
    have : j' = i := nodup_at hn hj' hj
    simp [this]
  · rw [getD_set_ne L k k' (fun e' => e e'.symm), h2 j' k' hj']
    have : j' ≠ i := fun e' => by
      subst e'
      rw [hj] at hj'
      exact e (Option.some.inj hj').symm
    omega
theorem Chain.end_ (h : Chain ks Vs L w) (hd : ∀ k ∈ ks, L.getD k false = true) (hV : Vs[ks.length]? = some V) (hl : Vs.length = ks.length + 1) : V = w := by
  obtain ⟨i, h1, h2⟩ := h
  have hi : i < ks.length + 1 := by rw [← hl]; exact (List.getElem?_eq_some_iff.1 h1).1
  have : i = ks.length := by
    rcases Nat.lt_or_ge i ks.length with e | e
    · have hk := List.getElem?_eq_getElem e
      have := (h2 i _ hk).1 (hd _ (List.getElem_mem e))
      omega
    · omega
  subst this
  rw [hV] at h1
  exact Option.some.inj h1
end
/-- Such a region whose last writer waits for all operations below m. -/
def ChainF (ks : List Nat) (Vs : List World) (m : Nat) (L : Array Bool) (w : World) : Prop :=
  Chain ks Vs L w ∧ ∀ kl, ks[ks.length - 1]? = some kl → L.getD kl false = true → ∀ j, j < m → L.getD j false = true
section
variable {ks : List Nat} {Vs : List World} {m : Nat} {L : Array Bool} {w V V' : World} {j k : Nat}
theorem ChainF.start {n : Nat} (h : Vs[0]? = some w) : ChainF ks Vs m (Array.replicate n false) w := by
  refine ⟨Chain.start h, fun kl _ hd => ?_⟩
  have h : (Array.replicate n false).getD kl false = false := by
    simp only [Array.getD_eq_getD_getElem?]
    rcases Nat.lt_or_ge kl n with h | h
    · rw [Array.getElem?_eq_getElem (by simpa using h)]; simp
    · rw [Array.getElem?_eq_none (by simpa using h)]; rfl
  rw [h] at hd
  cases hd
theorem ChainF.keep (h : ChainF ks Vs m L w) (k : Nat) (hk : k ∉ ks) : ChainF ks Vs m (L.setIfInBounds k true) w :=
  ⟨h.1.keep k hk, fun kl hkl hd j hj => by
    rw [getD_set_ne L k kl (fun e => hk (e ▸ List.mem_of_getElem? hkl))] at hd
    exact getD_keep (h.2 kl hkl hd j hj)⟩
/-- Ahead of the last writer. -/
theorem ChainF.pend (h : ChainF ks Vs m L w) (hL : L.getD k true = false) (hlt : k < m) (h0 : 0 < ks.length) : w ∈ Vs.take ks.length := by
  obtain ⟨⟨i, h1, h2⟩, h3⟩ := h
  have hi : i < ks.length := by
    rcases Nat.lt_or_ge i ks.length with e | e
    · exact e
    · have hk := List.getElem?_eq_getElem (show ks.length - 1 < ks.length by omega)
      have := h3 _ hk ((h2 _ _ hk).2 (by omega)) k hlt
      rw [getD_false L k hL] at this
      cases this
  have : (Vs.take ks.length)[i]? = some w := by rw [List.getElem?_take, if_pos hi]; exact h1
  exact List.mem_of_getElem? this
theorem ChainF.at_ (h : ChainF ks Vs m L w) (hj : ks[j]? = some k) (hjl : j + 1 < ks.length) (hL : L.getD k true = false) (hn : ks.Nodup) (hp : ∀ k', j ≠ 0 → ks[j - 1]? = some k' → L.getD k' false = true) (hV : Vs[j]? = some V) (hV' : Vs[j + 1]? = some V') :
    V = w ∧ ChainF ks Vs m (L.setIfInBounds k true) V' := by
  obtain ⟨a, b⟩ := h.1.at_ hj hL hn hp hV hV'
  refine ⟨a, b, fun kl hkl hd j' hj' => ?_⟩
  rw [getD_set_ne L k kl (fun e => by
    subst e
    have := nodup_at hn hj hkl
    omega)] at hd
  exact getD_keep (h.2 kl hkl hd j' hj')
theorem ChainF.last (h : ChainF ks Vs m L w) (hj : ks[j]? = some k) (hL : L.getD k true = false) (hn : ks.Nodup) (hd : ∀ j, j < m → L.getD j false = true) (hp : ∀ k', j ≠ 0 → ks[j - 1]? = some k' → k' < m) (hV : Vs[j]? = some V) (hV' : Vs[j + 1]? = some V') :
    V = w ∧ ChainF ks Vs m (L.setIfInBounds k true) V' := by
  obtain ⟨a, b⟩ := h.1.at_ hj hL hn (fun k' h0 h1 => hd k' (hp k' h0 h1)) hV hV'
  exact ⟨a, b, fun kl _ _ j' hj' => getD_keep (hd j' hj')⟩
theorem ChainF.end_ (h : ChainF ks Vs m L w) (hd : ∀ k ∈ ks, L.getD k false = true) (hV : Vs[ks.length]? = some V) (hl : Vs.length = ks.length + 1) : V = w := h.1.end_ hd hV hl
end
end Go.Proofs.YtdldochhondifaaGreatDoor
namespace Go.Proofs.YtdldochhondifaaGreatDoor
open Go.RowKit
attribute [local go_sem] Oper.semAt_some

theorem blk_ty {w : World} {g : Nat} {t t' : TypeId} {cs cs' : Array Value} (h : Blk w g t cs) (h' : Blk w g t' cs') : t = t' := by
  unfold Blk at h h'
  rw [h] at h'
  injection h' with h'
  injection h' with _ h' _
/-- Where a section lies. -/
structure SecD where
  bx : Nat
  lb : Nat
  cv : Value
  gv : Value
  kv : Value
def SecD.In (d : SecD) (k : Nat) : Prop := InSec d.bx d.lb d.cv d.gv d.kv k
/-- What a section holds. -/
structure SecE where
  name : List UInt8
  ms : List Mac
  labs : List (Int × Nat)
  gs : List (Nat × List UInt8)
  ks : List (Nat × List UInt8)
def SecOf (w : World) (base : Nat) (d : SecD) (e : SecE) : Prop := SecM w base d.bx e.name e.ms e.labs e.gs e.ks d.cv d.lb d.gv d.kv
def entOf (y : SecP) : SecE := ⟨y.name, y.st.code.map fun x => x.m, y.st.labs, goalsOf y.st.code, callsOf y.st.code⟩
/-- What lies in rows or blocks of another type is no block of a section. -/
theorem SecOf.row {w : World} {base : Nat} {d : SecD} {e : SecE} (h : SecOf w base d e) {b s n : Nat} {t : TypeId} {v : Value} {xs : List Value} (hv : w.ownsRow b t s v n xs) (h1 : t ≠ 56) (h2 : t ≠ 39) (h3 : t ≠ 122) {k : Nat} (hk : v.ownBlock = some k) : ¬ d.In k := by
  rintro (e | e | e | e | e)
  · subst e
    exact ownBlk_ne hv h.blk h1 hk
  · subst e
    exact h.map.row hv hk
  · exact own_two hv h.code h2 k hk e
  · exact own_two hv h.goals h3 k hk e
  · exact own_two hv h.calls h3 k hk e
theorem SecOf.blk {w : World} {base : Nat} {d : SecD} {e : SecE} (h : SecOf w base d e) {g : Nat} {t : TypeId} {cs : Array Value} (hb : Blk w g t cs) (h1 : t ≠ 56) (h2 : t ≠ 39) (h3 : t ≠ 122) : ¬ d.In g := by
  rintro (e | e | e | e | e)
  · subst e
    exact h1 (blk_ty hb (SecM.blk h))
  · subst e
    exact h.map.ne hb rfl
  · exact ownBlk_ne h.code hb (fun e => h2 e.symm) e
  · exact ownBlk_ne h.goals hb (fun e => h3 e.symm) e
  · exact ownBlk_ne h.calls hb (fun e => h3 e.symm) e
/-- All sections, apart from each other. -/
structure SecsM (w : World) (base : Nat) (ds : List SecD) (es : List SecE) : Prop where
  len : ds.length = es.length
  each : ∀ (i : Nat) (d : SecD) (e : SecE), ds[i]? = some d → es[i]? = some e → SecOf w base d e
  apart : ∀ (i j : Nat) (d d' : SecD), ds[i]? = some d → ds[j]? = some d' → i ≠ j → ∀ k, d.In k → ¬ d'.In k
def InSecs (ds : List SecD) (k : Nat) : Prop := ∃ d ∈ ds, d.In k
section
variable {w w' : World} {base : Nat} {ds : List SecD} {es : List SecE}
theorem SecsM.nil (w : World) (base : Nat) : SecsM w base [] [] := ⟨rfl, fun i d e h => by simp at h, fun i j d d' h => by simp at h⟩
theorem SecsM.of (h : SecsM w base ds es) {i : Nat} {d : SecD} (hi : ds[i]? = some d) : ∃ e, es[i]? = some e ∧ SecOf w base d e := by
  have hl := (List.getElem?_eq_some_iff.1 hi).1
  rw [h.len] at hl
  exact ⟨es[i], List.getElem?_eq_getElem hl, h.each i d _ hi (List.getElem?_eq_getElem hl)⟩
theorem SecsM.lt (h : SecsM w base ds es) {k : Nat} (hk : InSecs ds k) : k < w.heap.size := by
  obtain ⟨d, hd, hk⟩ := hk
  obtain ⟨i, hi⟩ := List.mem_iff_getElem?.1 hd
  obtain ⟨e, _, hs⟩ := h.of hi
  exact SecM.lt hs hk
theorem SecsM.low (h : SecsM w base ds es) {k : Nat} (hk : InSecs ds k) : base ≤ k := by
  obtain ⟨d, hd, hk⟩ := hk
  obtain ⟨i, hi⟩ := List.mem_iff_getElem?.1 hd
  obtain ⟨e, _, hs⟩ := h.of hi
  exact SecM.low hs hk
theorem SecsM.stay (h : SecsM w base ds es) (hk : ∀ k, InSecs ds k → w'.heap[k]? = w.heap[k]?) : SecsM w' base ds es :=
  ⟨h.len, fun i d e hi he => SecM.stay (h.each i d e hi he) fun k hin => hk k ⟨d, List.mem_of_getElem? hi, hin⟩, h.apart⟩
theorem SecsM.below (h : SecsM w base ds es) (hb : Below w.heap.size w w') : SecsM w' base ds es := h.stay fun k hk => hb.block k (h.lt hk)
theorem SecsM.row (h : SecsM w base ds es) {b s n : Nat} {t : TypeId} {v : Value} {xs : List Value} (hv : w.ownsRow b t s v n xs) (h1 : t ≠ 56) (h2 : t ≠ 39) (h3 : t ≠ 122) {k : Nat} (hk : v.ownBlock = some k) : ¬ InSecs ds k := by
  rintro ⟨d, hd, hin⟩
  obtain ⟨i, hi⟩ := List.mem_iff_getElem?.1 hd
  obtain ⟨e, _, hs⟩ := h.of hi
  exact hs.row hv h1 h2 h3 hk hin
theorem SecsM.blk (h : SecsM w base ds es) {g : Nat} {t : TypeId} {cs : Array Value} (hb : Blk w g t cs) (h1 : t ≠ 56) (h2 : t ≠ 39) (h3 : t ≠ 122) : ¬ InSecs ds g := by
  rintro ⟨d, hd, hin⟩
  obtain ⟨i, hi⟩ := List.mem_iff_getElem?.1 hd
  obtain ⟨e, _, hs⟩ := h.of hi
  exact hs.blk hb h1 h2 h3 hin
/-- One section has changed. -/
theorem SecsM.put (h : SecsM w base ds es) {i : Nat} {d d' : SecD} {e' : SecE} (hi : ds[i]? = some d) (ho : OutS d.In w w') (hs : SecOf w' base d' e') (hk : ∀ k, d'.In k → d.In k ∨ w.heap.size ≤ k) : SecsM w' base (ds.set i d') (es.set i e') := by
  have hil := (List.getElem?_eq_some_iff.1 hi).1
  have hlt : ∀ (j : Nat) (f : SecD), ds[j]? = some f → ∀ k, f.In k → k < w.heap.size := fun j f hj k hin => h.lt ⟨f, List.mem_of_getElem? hj, hin⟩
  refine ⟨by rw [List.length_set, List.length_set, h.len], fun j f g hj hg => ?_, fun j l f f' hj hl hne k hin hin' => ?_⟩
  · by_cases e : j = i
    · subst e
      rw [List.getElem?_set_self hil] at hj
      rw [List.getElem?_set_self (by rw [← h.len]; exact hil)] at hg
      cases hj; cases hg
      exact hs
    · rw [List.getElem?_set_ne (fun e' => e e'.symm)] at hj hg
      exact SecM.stay (h.each j f g hj hg) fun k hin => ho.block k (hlt j f hj k hin) (h.apart j i f d hj hi e k hin)
  · by_cases e : j = i
    · subst e
      rw [List.getElem?_set_self hil] at hj
      rw [List.getElem?_set_ne (fun e' => hne e')] at hl
      cases hj
      rcases hk k hin with h1 | h1
      · exact h.apart j l d f' hi hl hne k h1 hin'
      · have := hlt l f' hl k hin'
        omega
    · by_cases e2 : l = i
      · subst e2
        rw [List.getElem?_set_self hil] at hl
        rw [List.getElem?_set_ne (fun e' => e e'.symm)] at hj
        cases hl
        rcases hk k hin' with h1 | h1
        · exact h.apart j l f d hj hi hne k hin h1
        · have := hlt j f hj k hin
          omega
      · rw [List.getElem?_set_ne (fun e' => e e'.symm)] at hj
        rw [List.getElem?_set_ne (fun e' => e2 e'.symm)] at hl
        exact h.apart j l f f' hj hl hne k hin hin'
theorem inSecs_set {i : Nat} {d d' : SecD} {B : Nat} (hi : ds[i]? = some d) (hk : ∀ k, d'.In k → d.In k ∨ B ≤ k) {k : Nat} (h : InSecs (ds.set i d') k) : InSecs ds k ∨ B ≤ k := by
  obtain ⟨f, hf, hin⟩ := h
  rcases List.mem_or_eq_of_mem_set hf with hf | rfl
  · exact .inl ⟨f, hf, hin⟩
  · exact (hk k hin).imp (fun h => ⟨d, List.mem_of_getElem? hi, h⟩) id
/-- A section more. -/
theorem SecsM.snoc (h : SecsM w' base ds es) {d : SecD} {e : SecE} (hs : SecOf w' base d e) (hf : ∀ k, d.In k → ¬ InSecs ds k) : SecsM w' base (ds ++ [d]) (es ++ [e]) := by
  have hl := h.len
  refine ⟨by simp [hl], fun i f g hi hg => ?_, fun i j f f' hi hj hne k hin hin' => ?_⟩
  · rcases Nat.lt_or_ge i ds.length with hlt | hge
    · rw [List.getElem?_append_left hlt] at hi
      rw [List.getElem?_append_left (by omega)] at hg
      exact h.each i f g hi hg
    · rw [List.getElem?_append_right hge] at hi
      rw [List.getElem?_append_right (by omega)] at hg
      have : i - ds.length = 0 := by
        have := (List.getElem?_eq_some_iff.1 hi).1
        simp at this
        omega
      rw [this] at hi
      rw [show i - es.length = 0 by omega] at hg
      cases hi; cases hg
      exact hs
  · have key : ∀ (m : Nat) (x : SecD), (ds ++ [d])[m]? = some x → (m < ds.length ∧ ds[m]? = some x) ∨ (m = ds.length ∧ x = d) := fun m x hm => by
      rcases Nat.lt_or_ge m ds.length with hlt | hge
      · rw [List.getElem?_append_left hlt] at hm
        exact .inl ⟨hlt, hm⟩
      · rw [List.getElem?_append_right hge] at hm
        have h0 := (List.getElem?_eq_some_iff.1 hm).1
        simp at h0
        have h0' : m - ds.length = 0 := by omega
        rw [h0'] at hm
        cases hm
        exact .inr ⟨by omega, rfl⟩
    rcases key i f hi with ⟨a, b⟩ | ⟨a, rfl⟩
    · rcases key j f' hj with ⟨a', b'⟩ | ⟨a', rfl⟩
      · exact h.apart i j f f' b b' hne k hin hin'
      · exact hf k hin' ⟨f, List.mem_of_getElem? b, hin⟩
    · rcases key j f' hj with ⟨a', b'⟩ | ⟨a', rfl⟩
      · exact hf k hin ⟨f', List.mem_of_getElem? b', hin'⟩
      · omega
end

def globCells (l : List (Glob × Value)) : List Value := (l.map fun g => [Value.string g.1.name, .int .i64 g.1.size, g.2]).flatten
theorem globCells_snoc (l : List (Glob × Value)) (g : Glob × Value) : globCells (l ++ [g]) = globCells l ++ [.string g.1.name, .int .i64 g.1.size, g.2] := by
  unfold globCells
  rw [List.map_append, List.flatten_append]
  simp
structure OwnGl (w : World) (base : Nat) (v : Value) (l : List (Glob × Value)) : Prop where
  row : w.ownsRow base 79 3 v l.length (globCells l)
  inits : ∀ g ∈ l, OwnInts w base g.2 g.1.init
theorem OwnGl.nil (w : World) (base : Nat) : OwnGl w base (.slice none 0 0) [] := ⟨World.ownsRow_nil w base 79 3, by simp⟩
def OwnPs (w : World) (base : Nat) (v : Value) (ds : List SecD) : Prop := w.ownsRow base 52 1 v ds.length (ds.map fun d => Value.pointer (some ⟨d.bx, 0, none⟩))
theorem OwnPs.nil (w : World) (base : Nat) : OwnPs w base (.slice none 0 0) [] := World.ownsRow_nil w base 52 1
theorem OwnPs.snoc {w : World} {base : Nat} {v : Value} {ds : List SecD} {d : SecD} (h : w.ownsRow base 52 1 v (ds.length + 1) (ds.map (fun d => Value.pointer (some ⟨d.bx, 0, none⟩)) ++ [.pointer (some ⟨d.bx, 0, none⟩)])) : OwnPs w base v (ds ++ [d]) := by
  unfold OwnPs
  rw [List.length_append, List.map_append]
  exact h
theorem OwnPs.at_ {w : World} {base : Nat} {v : Value} {ds : List SecD} (h : OwnPs w base v ds) {i : Nat} {d : SecD} (hi : ds[i]? = some d) :
    ∃ b c, v = .slice (some ⟨b, 0, none⟩) ds.length c ∧ base ≤ b ∧ b < w.heap.size ∧ w.cell? ⟨b, i, none⟩ = some (.pointer (some ⟨d.bx, 0, none⟩)) := by
  have hlt := (List.getElem?_eq_some_iff.1 hi).1
  rcases h.2 with ⟨_, h0⟩ | ⟨g, cap, cur, e1, hg, hh, _⟩
  · omega
  · have hc := World.ownsRow.cells h (g := g) (by rw [e1]; rfl)
    have hadd : ∀ j, (⟨g, 0, none⟩ : Addr).add j = ⟨g, j, none⟩ := fun j => by unfold Addr.add; split <;> simp_all
    refine ⟨g, cap, e1, hg, (Array.getElem?_eq_some_iff.1 hh).1, ?_⟩
    have := hc i (.pointer (some ⟨d.bx, 0, none⟩)) (by rw [List.getElem?_map, hi]; rfl)
    rwa [hadd] at this
theorem infoGlob : (Tryz.prog.info? 79).map (fun i => (i.zero, i.size, i.bytes)) = some (some (.agg #[.string ⟨#[]⟩, .int .i64 0, .slice none 0 0]), 3, 48) := by kernel_rfl
theorem infoSecP : (Tryz.prog.info? 52).map (fun i => (i.zero, i.size, i.bytes)) = some (some (.pointer none), 1, 8) := by kernel_rfl

structure WhM (w : World) (base wx : Nat) (gv sv : Value) (gl : List (Glob × Value)) (ds : List SecD) (x : WSt) : Prop where
  blk : Blk w wx 70 #[gv, sv]
  globs : OwnGl w base gv gl
  geq : gl.map (fun g => g.1) = x.globs
  ptrs : OwnPs w base sv ds
  secs : SecsM w base ds (x.secs.map entOf)
  ge : base ≤ wx
def InWh (wx : Nat) (gv sv : Value) (ds : List SecD) (k : Nat) : Prop := k = wx ∨ gv.ownBlock = some k ∨ sv.ownBlock = some k ∨ InSecs ds k
section
variable {w w' : World} {B wx : Nat} {gv sv : Value} {gl : List (Glob × Value)} {ds : List SecD} {x : WSt}
theorem WhM.lt (h : WhM w B wx gv sv gl ds x) {k : Nat} (hk : InWh wx gv sv ds k) : k < w.heap.size := by
  rcases hk with rfl | hk | hk | hk
  · exact h.blk.lt
  · exact own_lt h.globs.row hk
  · exact own_lt h.ptrs hk
  · exact h.secs.lt hk
theorem WhM.low (h : WhM w B wx gv sv gl ds x) {k : Nat} (hk : InWh wx gv sv ds k) : B ≤ k := by
  rcases hk with rfl | hk | hk | hk
  · exact h.ge
  · exact own_block_ge h.globs.row k hk
  · exact own_block_ge h.ptrs k hk
  · exact h.secs.low hk
theorem WhM.below (h : WhM w B wx gv sv gl ds x) (hb : Below w.heap.size w w') : WhM w' B wx gv sv gl ds x :=
  ⟨h.blk.below hb h.blk.lt, ⟨own_at h.globs.row fun k e => hb.block k (own_lt h.globs.row e), fun g hg => (h.globs.inits g hg).below hb rfl⟩, h.geq, own_at h.ptrs fun k e => hb.block k (own_lt h.ptrs e), h.secs.below hb, h.ge⟩
/-- The last section has read a line. -/
theorem WhM.line (h : WhM w B wx gv sv gl ds x) {i : Nat} {d d' : SecD} {y' : SecP} (hi : ds[i]? = some d) (ho : OutS d.In w w') (hs : SecOf w' B d' (entOf y')) (hbx : d'.bx = d.bx) (hk : ∀ k, d'.In k → d.In k ∨ w.heap.size ≤ k) :
    WhM w' B wx gv sv gl (ds.set i d') ⟨x.globs, x.secs.set i y'⟩ ∧ OutS (InWh wx gv sv ds) w w' ∧ ∀ k, InWh wx gv sv (ds.set i d') k → InWh wx gv sv ds k ∨ w.heap.size ≤ k := by
  obtain ⟨e, _, hse⟩ := h.secs.of hi
  have hm : ∀ k, d.In k → InSecs ds k := fun k hin => ⟨d, List.mem_of_getElem? hi, hin⟩
  refine ⟨⟨?_, ⟨?_, fun g hg => ?_⟩, h.geq, ?_, ?_, h.ge⟩, ho.wider fun k _ hin => .inr (.inr (.inr (hm k hin))), fun k hin => ?_⟩
  · exact (ho.block wx h.blk.lt (hse.blk h.blk (by decide) (by decide) (by decide))).trans h.blk
  · exact own_at h.globs.row fun k e => ho.block k (own_lt h.globs.row e) (hse.row h.globs.row (by decide) (by decide) (by decide) e)
  · have hg' := h.globs.inits g hg
    exact own_at hg' fun k e => ho.block k (own_lt hg' e) (hse.row hg' (by decide) (by decide) (by decide) e)
  · have e : ∀ (l : List SecD) (i : Nat) (d : SecD), l[i]? = some d → d'.bx = d.bx → (l.set i d').map (fun d => Value.pointer (some ⟨d.bx, 0, none⟩)) = l.map fun d => Value.pointer (some ⟨d.bx, 0, none⟩) := by
      intro l i d hi hb
      rw [List.map_set, hb]
      refine List.ext_getElem? fun j => ?_
      by_cases hj : i = j
      · subst hj
        rw [List.getElem?_set_self (by rw [List.length_map]; exact (List.getElem?_eq_some_iff.1 hi).1), List.getElem?_map, hi]
        rfl
      · rw [List.getElem?_set_ne hj]
    unfold OwnPs
    rw [List.length_set, e ds i d hi hbx]
    exact own_at h.ptrs fun k e => ho.block k (own_lt h.ptrs e) (hse.row h.ptrs (by decide) (by decide) (by decide) e)
  · rw [List.map_set]
    exact h.secs.put hi ho hs hk
  · rcases hin with e | e | e | e
    · exact .inl (.inl e)
    · exact .inl (.inr (.inl e))
    · exact .inl (.inr (.inr (.inl e)))
    · exact (inSecs_set hi hk e).imp (fun e => .inr (.inr (.inr e))) id
/-- A global more. -/
theorem WhM.addGlob (h : WhM w B wx gv sv gl ds x) {g : Glob} {iv gv' : Value} {H : Nat} (hap : Appended w B 79 3 gv (gl.length + 1) (globCells gl ++ [.string g.name, .int .i64 g.size, iv]) H gv' w') (hH : w.heap.size ≤ H) (hiv : OwnInts w B iv g.init) :
    WhM (w'.setCell ⟨wx, 0, none⟩ gv') B wx gv' sv (gl ++ [(g, iv)]) ds ⟨x.globs ++ [g], x.secs⟩ ∧ OutS (InWh wx gv sv ds) w (w'.setCell ⟨wx, 0, none⟩ gv') ∧ ∀ k, InWh wx gv' sv ds k → InWh wx gv sv ds k ∨ w.heap.size ≤ k := by
  have hbx := hap.blk h.globs.row h.blk (by decide)
  have hfar : ∀ k, k ≠ wx → (w'.setCell ⟨wx, 0, none⟩ gv').heap[k]? = w'.heap[k]? := fun k hk => Below.heap_setCell w' ⟨wx, 0, none⟩ gv' k hk
  have hst : ∀ k, k < w.heap.size → k ≠ wx → gv.ownBlock ≠ some k → (w'.setCell ⟨wx, 0, none⟩ gv').heap[k]? = w.heap[k]? := fun k hlt h1 h2 => (hfar k h1).trans (hap.2.2.1.block k hlt (fun e => h2 e.symm))
  have hrow : ∀ {b s n : Nat} {t : TypeId} {v : Value} {xs : List Value}, w.ownsRow b t s v n xs → t ≠ 70 → t ≠ 79 → (w'.setCell ⟨wx, 0, none⟩ gv').ownsRow b t s v n xs := fun hv h1 h2 => own_at hv fun k e => hst k (own_lt hv e) (by rintro rfl; exact ownBlk_ne hv h.blk h1 e) (own_two hv h.globs.row h2 k e)
  refine ⟨⟨hbx.set_ 0 gv', ⟨?_, fun g' hg' => ?_⟩, by rw [List.map_append, h.geq]; rfl, hrow h.ptrs (by decide) (by decide), ?_, h.ge⟩, ?_, fun k hk => ?_⟩
  · have hr : w'.ownsRow B 79 3 gv' (gl ++ [(g, iv)]).length (globCells (gl ++ [(g, iv)])) := by
      rw [globCells_snoc, List.length_append]
      exact hap.own
    exact own_at hr fun k e => hfar k (by rintro rfl; exact ownBlk_ne hr hbx (by decide) e)
  · rcases List.mem_append.1 hg' with hg' | hg'
    · exact hrow (h.globs.inits g' hg') (by decide) (by decide)
    · rw [List.mem_singleton] at hg'
      subst hg'
      exact hrow hiv (by decide) (by decide)
  · exact h.secs.stay fun k hin => hst k (h.secs.lt hin) (by rintro rfl; exact h.secs.blk h.blk (by decide) (by decide) (by decide) hin) fun e => h.secs.row h.globs.row (by decide) (by decide) (by decide) e hin
  · exact (outS_grown hap.2.2.1 fun k e => .inr (.inl e)).trans (outS_set (S := fun k => k = wx) w' wx 0 gv' rfl) fun i _ e => .inl e
  · rcases hk with e | e | e | e
    · exact .inl (.inl e)
    · rcases hap.2.2.2 with h1 | h1
      · exact .inl (.inr (.inl (h1 ▸ e)))
      · rw [h1] at e; cases e; exact .inr hH
    · exact .inl (.inr (.inr (.inl e)))
    · exact .inl (.inr (.inr (.inr e)))
/-- A section more. -/
theorem WhM.addSec (h : WhM w B wx gv sv gl ds x) {d : SecD} {nm : List UInt8} {sv' : Value} {H : Nat} (hap : Appended w B 52 1 sv (ds.length + 1) (ds.map (fun d => Value.pointer (some ⟨d.bx, 0, none⟩)) ++ [.pointer (some ⟨d.bx, 0, none⟩)]) H sv' w') (hH : w.heap.size ≤ H)
    (hd : SecOf w B d (entOf ⟨nm, ⟨[], []⟩⟩)) (hf : ∀ k, d.In k → ¬ InSecs ds k) {M : Nat} (hM : M ≤ w.heap.size) (hdM : ∀ k, d.In k → M ≤ k) :
    WhM (w'.setCell ⟨wx, 1, none⟩ sv') B wx gv sv' gl (ds ++ [d]) ⟨x.globs, x.secs ++ [⟨nm, ⟨[], []⟩⟩]⟩ ∧ OutS (InWh wx gv sv ds) w (w'.setCell ⟨wx, 1, none⟩ sv') ∧ ∀ k, InWh wx gv sv' (ds ++ [d]) k → InWh wx gv sv ds k ∨ M ≤ k := by
  have hbx := hap.blk h.ptrs h.blk (by decide)
  have hfar : ∀ k, k ≠ wx → (w'.setCell ⟨wx, 1, none⟩ sv').heap[k]? = w'.heap[k]? := fun k hk => Below.heap_setCell w' ⟨wx, 1, none⟩ sv' k hk
  have hst : ∀ k, k < w.heap.size → k ≠ wx → sv.ownBlock ≠ some k → (w'.setCell ⟨wx, 1, none⟩ sv').heap[k]? = w.heap[k]? := fun k hlt h1 h2 => (hfar k h1).trans (hap.2.2.1.block k hlt (fun e => h2 e.symm))
  have hrow : ∀ {b s n : Nat} {t : TypeId} {v : Value} {xs : List Value}, w.ownsRow b t s v n xs → t ≠ 70 → t ≠ 52 → (w'.setCell ⟨wx, 1, none⟩ sv').ownsRow b t s v n xs := fun hv h1 h2 => own_at hv fun k e => hst k (own_lt hv e) (by rintro rfl; exact ownBlk_ne hv h.blk h1 e) (own_two hv h.ptrs h2 k e)
  have hd' : SecOf (w'.setCell ⟨wx, 1, none⟩ sv') B d (entOf ⟨nm, ⟨[], []⟩⟩) := SecM.stay hd fun k hin => hst k (SecM.lt hd hin) (by rintro rfl; exact hd.blk h.blk (by decide) (by decide) (by decide) hin) fun e => hd.row h.ptrs (by decide) (by decide) (by decide) e hin
  refine ⟨⟨hbx.set_ 1 sv', ⟨hrow h.globs.row (by decide) (by decide), fun g' hg' => hrow (h.globs.inits g' hg') (by decide) (by decide)⟩, h.geq, ?_, ?_, h.ge⟩, ?_, fun k hk => ?_⟩
  · have hr : OwnPs w' B sv' (ds ++ [d]) := OwnPs.snoc hap.own
    exact own_at hr fun k e => hfar k (by rintro rfl; exact ownBlk_ne hr hbx (by decide) e)
  · rw [List.map_append]
    exact (h.secs.stay fun k hin => hst k (h.secs.lt hin) (by rintro rfl; exact h.secs.blk h.blk (by decide) (by decide) (by decide) hin) fun e => h.secs.row h.ptrs (by decide) (by decide) (by decide) e hin).snoc hd' hf
  · exact (outS_grown hap.2.2.1 fun k e => .inr (.inr (.inl e))).trans (outS_set (S := fun k => k = wx) w' wx 1 sv' rfl) fun i _ e => .inl e
  · rcases hk with e | e | e | ⟨f, hf', hin⟩
    · exact .inl (.inl e)
    · exact .inl (.inr (.inl e))
    · rcases hap.2.2.2 with h1 | h1
      · exact .inl (.inr (.inr (.inl (h1 ▸ e))))
      · rw [h1] at e; cases e; exact .inr (Nat.le_trans hM hH)
    · rcases List.mem_append.1 hf' with hf' | hf'
      · exact .inl (.inr (.inr (.inr ⟨f, hf', hin⟩)))
      · rw [List.mem_singleton] at hf'
        subst hf'
        exact .inr (hdM k hin)
end
end Go.Proofs.YtdldochhondifaaGreatDoor
