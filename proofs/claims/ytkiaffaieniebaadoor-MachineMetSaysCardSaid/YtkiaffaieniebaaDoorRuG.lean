/-
  Several texts in one (RuP RuG): what each proves stands at its theorems.
  Conditions: as the theorems say.
-/
import Derived.Test.YtkiaffaieniebaaDoorRnB
namespace Go.Proofs.YtkiaffaieniebaaDoor
open Go.RowKit

/-- A call under way: the routine, where it goes on, its words. -/
structure Fr where
  r : Nat
  pc : Nat
  ws : List Int
/-- The machine: its calls under way, the newest first. -/
structure Mch where
  regs : List Int
  mem : List Int
  calls : List Fr
  input : List Int
  out : List Int
  steps : Nat
  state : Int
  value : Int
  over : Bool

def Mch.ends (s : Mch) (st : Int) : Mch := { s with state := st, over := true }
def Mch.set (s : Mch) (d n : Int) : Mch := { s with regs := s.regs.set d.toNat n }
def Mch.reg (s : Mch) (a : Int) : Int := s.regs.getD a.toNat 0
def goesS (op a b : Int) : Bool :=
  if op = 38 then decide (a ≠ 0) else if op = 39 then decide (a = 0) else if op = 40 then decide (a = b) else if op = 41 then decide (a ≠ b)
  else if op = 42 then decide (a < b) else if op = 43 then decide (a ≤ b) else true
def reckS (op d a b : Int) (s : Mch) : Mch := if (twoS op a b).2 then s.set d (twoS op a b).1 else s.ends 2
def loadS (d n : Int) (s : Mch) : Mch := if 0 ≤ n ∧ n < (s.mem.length : Int) then s.set d (s.mem.getD n.toNat 0) else s.ends 3
def storeS (n v : Int) (s : Mch) : Mch := if 0 ≤ n ∧ n < (s.mem.length : Int) then { s with mem := s.mem.set n.toNat v } else s.ends 3
def callS (n : Int) (s : Mch) : Mch := if s.calls.length = 30 then s.ends 4 else { s with calls := ⟨n.toNat, 0, List.replicate 120 0⟩ :: s.calls }
def retS (cs : List Fr) (s : Mch) : Mch := if cs.length = 0 then { s with calls := cs, value := s.reg 0, state := 0, over := true } else { s with calls := cs }
def readM (d : Int) (s : Mch) : Mch := match s.input with
  | [] => s.set d (-1)
  | x :: l => { s with regs := s.regs.set d.toNat x, input := l }
def printS (a : Int) (s : Mch) : Mch := if s.out.length = 200 then s.ends 5 else { s with out := s.out ++ [s.reg a] }
def movesS (i : Mac) (c : Fr) (cs : List Fr) (s : Mch) : Mch :=
  if i.op = 1 then s.set i.dst i.n
  else if i.op = 2 then s.set i.dst (s.reg i.a)
  else if i.op = 3 then s.set i.dst (wrap64 (-(s.reg i.a)))
  else if i.op = 4 then s.set i.dst (wrap64 (-(s.reg i.a) - 1))
  else if i.op = 33 then loadS i.dst (wrap64 (s.reg i.a + i.n)) s
  else if i.op = 34 then storeS (wrap64 (s.reg i.a + i.n)) (s.reg i.b) s
  else if i.op = 35 then s.set i.dst (c.ws.getD i.n.toNat 0)
  else { s with calls := { c with ws := c.ws.set i.n.toNat (s.reg i.a) } :: cs }
def speaksS (i : Mac) (cs : List Fr) (s : Mch) : Mch :=
  if i.op = 44 then callS i.n s
  else if i.op = 45 then retS cs s
  else if i.op = 46 then readM i.dst s
  else printS i.a s
/-- The instruction i done: c is the newest call (gone on already), cs those beneath. -/
def doS (i : Mac) (c : Fr) (cs : List Fr) (s : Mch) : Mch :=
  if 5 ≤ i.op ∧ i.op ≤ 18 then reckS (i.op - 3) i.dst (s.reg i.a) (s.reg i.b) s
  else if 19 ≤ i.op ∧ i.op ≤ 32 then reckS (i.op - 17) i.dst (s.reg i.a) i.n s
  else if 37 ≤ i.op ∧ i.op ≤ 43 then (if goesS i.op (s.reg i.a) (s.reg i.b) then { s with calls := { c with pc := i.n.toNat } :: cs } else s)
  else if 44 ≤ i.op then speaksS i cs s
  else movesS i c cs s
def macAt (codes : List (List Mac)) (r pc : Nat) : Mac := (codes.getD r []).getD pc ⟨0, 0, 0, 0, 0⟩
def Fr.next (c : Fr) : Fr := { c with pc := c.pc + 1 }
def Mch.begun (s : Mch) (c : Fr) (cs : List Fr) : Mch := { s with steps := s.steps + 1, calls := c.next :: cs }
def stepS (codes : List (List Mac)) (s : Mch) : Mch := match s.calls with
  | [] => s
  | c :: cs => doS (macAt codes c.r c.pc) c.next cs (s.begun c cs)
def runS (codes : List (List Mac)) (s0 : Mch) : Nat → Mch
  | 0 => s0
  | k + 1 => if (runS codes s0 k).over then runS codes s0 k else stepS codes (runS codes s0 k)
def Mch.pos (s : Mch) : Nat × Nat := match s.calls with
  | [] => (0, 0)
  | c :: _ => (c.r, c.pc)
def metS (codes : List (List Mac)) (s0 : Mch) : Nat → List (Nat × Nat)
  | 0 => []
  | k + 1 => if (runS codes s0 k).over then metS codes s0 k else metS codes s0 k ++ [(runS codes s0 k).pos]
def startS (mem input : List Int) : Mch := ⟨List.replicate 16 0, mem, [⟨0, 0, List.replicate 120 0⟩], input, [], 0, 0, 0, false⟩
/-- What a run that has stopped says: hungry, if it is not over. -/
def Mch.told (s : Mch) : Mch := if s.over then s else { s with state := 1 }

/-- An instruction of a list of so many, which calls one of so many routines. -/
structure GoodM (m : Mac) (len rts : Nat) : Prop where
  op1 : 1 ≤ m.op
  op2 : m.op ≤ 47
  d1 : 0 ≤ m.dst
  d2 : m.dst < 16
  a1 : 0 ≤ m.a
  a2 : m.a < 16
  b1 : 0 ≤ m.b
  b2 : m.b < 16
  w : m.op = 35 ∨ m.op = 36 → 0 ≤ m.n ∧ m.n < 120
  t : 37 ≤ m.op ∧ m.op ≤ 43 → 0 ≤ m.n ∧ m.n < (len : Int)
  r : m.op = 44 → 0 ≤ m.n ∧ m.n < (rts : Int)
structure GoodL (ms : List Mac) (rts : Nat) : Prop where
  many : ms.length ≤ 5000
  all : ∀ (j : Nat) (m : Mac), ms[j]? = some m → GoodM m ms.length rts
  last : ∃ m, ms[ms.length - 1]? = some m ∧ (m.op = 37 ∨ m.op = 45)
def GoodC (codes : List (List Mac)) : Prop := ∀ (r : Nat) (ms : List Mac), codes[r]? = some ms → GoodL ms codes.length
def GoodF (codes : List (List Mac)) (c : Fr) : Prop := ∃ ms, codes[c.r]? = some ms ∧ c.pc < ms.length ∧ c.ws.length = 120
structure GoodS (codes : List (List Mac)) (s : Mch) : Prop where
  regs : s.regs.length = 16
  out : s.out.length ≤ 200
  calls : s.calls.length ≤ 30
  frs : ∀ c ∈ s.calls, GoodF codes c
  some : s.over = false → s.calls ≠ []
  mem : s.mem.length ≤ 200
  input : s.input.length ≤ 30

theorem GoodL.pos {ms : List Mac} {n : Nat} (h : GoodL ms n) : 0 < ms.length := by
  obtain ⟨m, hm, _⟩ := h.last
  have := (List.getElem?_eq_some_iff.1 hm).1
  omega
theorem macAt_of {codes : List (List Mac)} {c : Fr} (h : GoodF codes c) : ∃ ms, codes[c.r]? = some ms ∧ ms[c.pc]? = some (macAt codes c.r c.pc) := by
  obtain ⟨ms, h1, h2, _⟩ := h
  refine ⟨ms, h1, ?_⟩
  unfold macAt
  simp only [List.getD_eq_getElem?_getD, h1, Option.getD_some, List.getElem?_eq_getElem h2]
theorem macAt_good {codes : List (List Mac)} {c : Fr} (hc : GoodC codes) (h : GoodF codes c) : ∃ ms, codes[c.r]? = some ms ∧ c.pc < ms.length ∧ ms[c.pc]? = some (macAt codes c.r c.pc) ∧ GoodM (macAt codes c.r c.pc) ms.length codes.length ∧
    ((macAt codes c.r c.pc).op ≠ 37 → (macAt codes c.r c.pc).op ≠ 45 → c.pc + 1 < ms.length) := by
  obtain ⟨ms, h1, h2⟩ := macAt_of h
  have hlt := (List.getElem?_eq_some_iff.1 h2).1
  refine ⟨ms, h1, hlt, h2, (hc _ _ h1).all _ _ h2, fun n1 n2 => ?_⟩
  obtain ⟨m, hm, ho⟩ := (hc _ _ h1).last
  rcases Nat.lt_or_ge (c.pc + 1) ms.length with h | h
  · exact h
  · exfalso
    have e : ms.length - 1 = c.pc := by omega
    rw [e, h2] at hm
    cases hm
    rcases ho with ho | ho
    · exact n1 ho
    · exact n2 ho
/-- What a step keeps beside the calls. -/
structure GoodB (s : Mch) : Prop where
  regs : s.regs.length = 16
  out : s.out.length ≤ 200
  mem : s.mem.length ≤ 200
  input : s.input.length ≤ 30
theorem GoodS.base {codes : List (List Mac)} {s : Mch} (h : GoodS codes s) : GoodB s := ⟨h.regs, h.out, h.mem, h.input⟩
theorem GoodB.good {codes : List (List Mac)} {s : Mch} (h : GoodB s) (h1 : s.calls.length ≤ 30) (h2 : ∀ c ∈ s.calls, GoodF codes c) (h3 : s.over = false → s.calls ≠ []) : GoodS codes s := ⟨h.regs, h.out, h1, h2, h3, h.mem, h.input⟩
theorem GoodB.set {s : Mch} (h : GoodB s) (d n : Int) : GoodB (s.set d n) := ⟨by simp [Mch.set, h.regs], h.out, h.mem, h.input⟩
theorem GoodB.ends {s : Mch} (h : GoodB s) (n : Int) : GoodB (s.ends n) := ⟨h.regs, h.out, h.mem, h.input⟩
section
variable {codes : List (List Mac)} {i : Mac} {c : Fr} {cs : List Fr} {s : Mch} {ms : List Mac}
theorem good_stay (hb : GoodB s) (hs : s.calls = c :: cs) (hl : s.calls.length ≤ 30) (hg : ∀ d ∈ s.calls, GoodF codes d) : GoodS codes s :=
  hb.good hl hg fun _ => by rw [hs]; simp
theorem good_set (hb : GoodB s) (hs : s.calls = c :: cs) (hl : s.calls.length ≤ 30) (hg : ∀ d ∈ s.calls, GoodF codes d) (d n : Int) : GoodS codes (s.set d n) :=
  good_stay (c := c) (cs := cs) (hb.set d n) hs hl hg
theorem good_ends (hb : GoodB s) (hs : s.calls = c :: cs) (hl : s.calls.length ≤ 30) (hg : ∀ d ∈ s.calls, GoodF codes d) (n : Int) : GoodS codes (s.ends n) :=
  good_stay (c := c) (cs := cs) (hb.ends n) hs hl hg
theorem good_do (hc : GoodC codes) (hb : GoodB s) (hs : s.calls = c :: cs) (hl : s.calls.length ≤ 30) (hr : codes[c.r]? = some ms) (hi : GoodM i ms.length codes.length) (hws : c.ws.length = 120)
    (hpc : i.op ≠ 37 → i.op ≠ 45 → c.pc < ms.length) (hcs : ∀ d ∈ cs, GoodF codes d) : GoodS codes (doS i c cs s) := by
  have hg : i.op ≠ 37 → i.op ≠ 45 → ∀ d ∈ s.calls, GoodF codes d := by
    intro h1 h2 d hd
    rw [hs, List.mem_cons] at hd
    rcases hd with rfl | hd
    · exact ⟨ms, hr, hpc h1 h2, hws⟩
    · exact hcs d hd
  unfold doS
  split
  · have hg := hg (by omega) (by omega)
    unfold reckS
    split
    · exact good_set hb hs hl hg _ _
    · exact good_ends hb hs hl hg _
  split
  · have hg := hg (by omega) (by omega)
    unfold reckS
    split
    · exact good_set hb hs hl hg _ _
    · exact good_ends hb hs hl hg _
  split
  · rename_i h37
    split
    · refine ⟨hb.regs, hb.out, ?_, ?_, ?_, hb.mem, hb.input⟩
      · rw [hs] at hl; simpa using hl
      · intro d hd
        simp only [List.mem_cons] at hd
        rcases hd with rfl | hd
        · have := hi.t h37
          exact ⟨ms, hr, by show i.n.toNat < ms.length; omega, hws⟩
        · exact hcs d hd
      · simp
    · rename_i hgo
      have hne : i.op ≠ 37 := by
        intro h
        apply hgo
        rw [h]
        simp [goesS]
      exact good_stay hb hs hl (hg hne (by omega))
  split
  · rename_i h37 h44
    unfold speaksS
    split
    · rename_i h
      have hg := hg (by omega) (by omega)
      unfold callS
      split
      · exact good_ends hb hs hl hg _
      · rename_i h30
        refine ⟨hb.regs, hb.out, by simp only [List.length_cons]; omega, ?_, by simp, hb.mem, hb.input⟩
        intro d hd
        simp only [List.mem_cons] at hd
        rcases hd with rfl | hd
        · have := hi.r h
          have hlt : i.n.toNat < codes.length := by omega
          exact ⟨codes[i.n.toNat], List.getElem?_eq_getElem hlt, (hc _ _ (List.getElem?_eq_getElem hlt)).pos, by simp⟩
        · exact hg d hd
    split
    · unfold retS
      rw [hs] at hl
      simp only [List.length_cons] at hl
      split
      · exact ⟨hb.regs, hb.out, by show cs.length ≤ 30; omega, hcs, by simp, hb.mem, hb.input⟩
      · rename_i hne
        exact ⟨hb.regs, hb.out, by show cs.length ≤ 30; omega, hcs, fun _ => by intro e; apply hne; rw [show cs = [] from e]; rfl, hb.mem, hb.input⟩
    have hg := hg (by omega) (by omega)
    split
    · unfold readM
      split
      · exact good_set hb hs hl hg _ _
      · rename_i x l hin
        have := hb.input
        rw [hin, List.length_cons] at this
        exact good_stay (c := c) (cs := cs) ⟨by simp [hb.regs], hb.out, hb.mem, by show l.length ≤ 30; omega⟩ hs hl hg
    · unfold printS
      split
      · exact good_ends hb hs hl hg _
      · have := hb.out
        exact good_stay (c := c) (cs := cs) ⟨hb.regs, by simp; omega, hb.mem, hb.input⟩ hs hl hg
  · have hg := hg (by omega) (by omega)
    unfold movesS
    split
    · exact good_set hb hs hl hg _ _
    split
    · exact good_set hb hs hl hg _ _
    split
    · exact good_set hb hs hl hg _ _
    split
    · exact good_set hb hs hl hg _ _
    split
    · unfold loadS
      split
      · exact good_set hb hs hl hg _ _
      · exact good_ends hb hs hl hg _
    split
    · unfold storeS
      split
      · exact good_stay (c := c) (cs := cs) ⟨hb.regs, hb.out, by simp [hb.mem], hb.input⟩ hs hl hg
      · exact good_ends hb hs hl hg _
    split
    · exact good_set hb hs hl hg _ _
    · refine ⟨hb.regs, hb.out, by rw [hs] at hl; simpa using hl, ?_, by simp, hb.mem, hb.input⟩
      intro d hd
      simp only [List.mem_cons] at hd
      rcases hd with rfl | hd
      · have hlt := hpc (by omega) (by omega)
        exact ⟨ms, hr, hlt, by simp [hws]⟩
      · exact hcs d hd
end
theorem good_step {codes : List (List Mac)} {s : Mch} (hc : GoodC codes) (h : GoodS codes s) : GoodS codes (stepS codes s) := by
  unfold stepS
  cases hs : s.calls with
  | nil => exact h
  | cons c cs =>
    have hF := h.frs c (by rw [hs]; simp)
    obtain ⟨ms, h1, _, h3, h4, h5⟩ := macAt_good hc hF
    have hl := h.calls
    rw [hs] at hl
    exact good_do (c := c.next) (cs := cs) hc ⟨h.regs, h.out, h.mem, h.input⟩ rfl (by simpa [Mch.begun] using hl) h1 h4 (by obtain ⟨_, _, _, h⟩ := hF; exact h) h5 fun d hd => h.frs d (by rw [hs]; simp [hd])
theorem good_run {codes : List (List Mac)} {s : Mch} (hc : GoodC codes) (h : GoodS codes s) : ∀ k, GoodS codes (runS codes s k)
  | 0 => h
  | k + 1 => by
    show GoodS codes (if _ then _ else _)
    split
    · exact good_run hc h k
    · exact good_step hc (good_run hc h k)
theorem good_start {codes : List (List Mac)} {mem input : List Int} (hc : GoodC codes) (h0 : 0 < codes.length) (hm : mem.length ≤ 200) (hi : input.length ≤ 30) : GoodS codes (startS mem input) := by
  refine ⟨by simp [startS], by simp [startS], by simp [startS], ?_, by simp [startS], hm, hi⟩
  intro c hc'
  simp only [startS, List.mem_singleton] at hc'
  subst hc'
  exact ⟨codes[0], List.getElem?_eq_getElem h0, (hc _ _ (List.getElem?_eq_getElem h0)).pos, by simp⟩

theorem do_steps (i : Mac) (c : Fr) (cs : List Fr) (s : Mch) : (doS i c cs s).steps = s.steps := by
  unfold doS
  repeat' split
  all_goals first | rfl | (unfold reckS; split <;> rfl) | skip
  · unfold speaksS
    repeat' split
    · unfold callS; split <;> rfl
    · unfold retS; split <;> rfl
    · unfold readM; split <;> rfl
    · unfold printS; split <;> rfl
  · unfold movesS
    repeat' split
    all_goals first | rfl | (unfold loadS; split <;> rfl) | (unfold storeS; split <;> rfl)
theorem step_steps {codes : List (List Mac)} {s : Mch} (h : GoodS codes s) (ho : s.over = false) : (stepS codes s).steps = s.steps + 1 := by
  unfold stepS
  cases hs : s.calls with
  | nil => exact absurd hs (h.some ho)
  | cons c cs => exact do_steps _ _ _ _
end Go.Proofs.YtkiaffaieniebaaDoor
namespace Go.Proofs.YtkiaffaieniebaaDoor
open Go.RowKit

theorem goes_any (op a b : Int) (w : World) (h1 : 37 ≤ op) (h2 : op ≤ 43) : Calls Tryd.prog 74 #[.int .i64 op, .int .i64 a, .int .i64 b] w fun e w' => e = .returned (.bool (goesS op a b)) ∧ w = w' := by
  obtain rfl | rfl | rfl | rfl | rfl | rfl | rfl : op = 37 ∨ op = 38 ∨ op = 39 ∨ op = 40 ∨ op = 41 ∨ op = 42 ∨ op = 43 := by omega
  all_goals
    clear h1 h2
    go_enter Tryd.func74, Tryd.ntmps74
    go_wp2_with fail
    go_ret
    refine ⟨ret_bool ?_, rfl⟩
    simp [goesS, bne]
    try (cases h : (a == 0) <;> simp_all; done)
    try (cases h : (a == b) <;> simp_all; done)
theorem jumps_any (op a b : Int) (w : World) (h1 : 37 ≤ op) (h2 : op ≤ 43) : Calls Tryd.prog 56 #[.int .i64 op, .int .i64 a, .int .i64 b] w fun e w' => e = .returned (.bool (goesS op a b)) ∧ w = w' := by
  obtain rfl | rfl | rfl | rfl | rfl | rfl | rfl : op = 37 ∨ op = 38 ∨ op = 39 ∨ op = 40 ∨ op = 41 ∨ op = 42 ∨ op = 43 := by omega
  all_goals
    clear h1 h2
    go_enter Tryd.func56, Tryd.ntmps56
    go_wp2_with fail
    go_ret
    refine ⟨ret_bool ?_, rfl⟩
    simp [goesS, bne]
    try (cases h : (a == 0) <;> simp_all; done)
    try (cases h : (a == b) <;> simp_all; done)
end Go.Proofs.YtkiaffaieniebaaDoor
