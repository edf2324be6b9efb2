/-
  Texts of the claim AsmWholeFixed (RnB RuG RuC RuB RuD): what each proves stands at its theorems.
  Conditions: as the theorems say.
-/
import Derived.Laws.Bits128
import Derived.Laws.OwnMore
import Derived.KernelRfl
import Derived.RegionTactic
import Derived.BigRegion
import Derived.Deep.QuietTactic
import Derived.BigQuiet
import Derived.Test.YtdldochhondifaaGreatDoorWMacC
import Derived.Test.YtdldochhondifaaGreatDoorWLey
import Derived.Test.YtdldochhondifaaGreatDoorWMcZ
namespace Go.Proofs.YtdldochhondifaaGreatDoor
open Go.RowKit

def oneB (b : Bool) : Int := if b then 1 else 0
/-- What two numbers and a sign come to; false: by 0. -/
def twoS (op a b : Int) : Int × Bool :=
  if op = 2 then (wrap64 (a + b), true) else if op = 3 then (wrap64 (a - b), true) else if op = 4 then (wrap64 (a * b), true)
  else if op = 5 then (if b = 0 then (0, false) else (wrap64 (a.tdiv b), true)) else if op = 6 then (if b = 0 then (0, false) else (a.tmod b, true))
  else if op = 7 then (bits .and .i64 a b, true) else if op = 8 then (bits .or .i64 a b, true) else if op = 9 then (bits .xor .i64 a b, true)
  else if op = 10 then (wrap64 (a * 2 ^ (bits .and .i64 b 63).toNat), true) else if op = 11 then (a / 2 ^ (bits .and .i64 b 63).toNat, true)
  else if op = 12 then (oneB (decide (a = b)), true) else if op = 13 then (oneB (decide (a ≠ b)), true) else if op = 14 then (oneB (decide (a < b)), true) else (oneB (decide (a ≤ b)), true)
def TwoPost (f : Int × Bool) (w : World) (e : Ending) (w' : World) : Prop := e = .returned (.tuple #[.int .i64 f.1, .bool f.2]) ∧ w = w'
theorem i64_and63 (n : Int) : 0 ≤ bits .and .i64 n 63 ∧ bits .and .i64 n 63 < 64 := by
  have h : bits .and .i64 n 63 = n % 64 := by
    show IntKind.i64.wrap ((BitVec.ofInt 64 n &&& BitVec.ofInt 64 63).toNat : Int) = _
    rw [BitVec.toNat_and, show (BitVec.ofInt 64 63).toNat = 2 ^ 6 - 1 by decide, Nat.and_two_pow_sub_one_eq_mod, BitVec.toNat_ofInt, IntKind.wrap_i64]
    omega
  rw [h]
  omega
end Go.Proofs.YtdldochhondifaaGreatDoor
namespace Go.Proofs.YtdldochhondifaaGreatDoor
open Go.RowKit

theorem yes_any (b : Bool) (w : World) : Calls Tryz.prog 194 #[.bool b] w fun e w' => e = .returned (.int .i64 (oneB b)) ∧ w = w' := by
  cases b
  all_goals
    go_enter Tryz.func194, Tryz.ntmps194
    go_wp2_with fail
    go_ret
    exact ⟨rfl, rfl⟩
set_option maxHeartbeats 2000000 in
theorem Two_any (op a b : Int) (w : World) (h1 : 2 ≤ op) (h2 : op ≤ 15) : Calls Tryz.prog 184 #[.int .i64 op, .int .i64 a, .int .i64 b] w (TwoPost (twoS op a b) w) := by
  have h63 := i64_and63 b
  obtain ⟨f, hf⟩ : ∃ f, twoS op a b = f := ⟨_, rfl⟩
  rw [hf]
  have HF := Lib.hid hf
  clear hf
  obtain rfl | rfl | rfl | rfl | rfl | rfl | rfl | rfl | rfl | rfl | rfl | rfl | rfl | rfl : op = 2 ∨ op = 3 ∨ op = 4 ∨ op = 5 ∨ op = 6 ∨ op = 7 ∨ op = 8 ∨ op = 9 ∨ op = 10 ∨ op = 11 ∨ op = 12 ∨ op = 13 ∨ op = 14 ∨ op = 15 := by omega
  all_goals
    clear h1 h2
    by_cases hb : b = 0
    all_goals
      have Hb := Lib.hid hb
      first
        | (have hb0 : (b == 0) = false := by simp [hb])
        | (have hb0 : (b == 0) = true := by simp [hb]
           clear hb)
      obtain ⟨c, hc⟩ : ∃ c, bits .and .i64 b 63 = c := ⟨_, rfl⟩
      have Hc := Lib.hid hc
      rw [hc] at h63
      obtain ⟨hc0, hc1⟩ := h63
      go_enter Tryz.func184, Tryz.ntmps184
      go_wp2_with (go_at_call 194; refine (yes_any _ _).mono ?_; rintro e w' ⟨rfl, rfl⟩)

      go_ret2
      (refine ⟨?_, rfl⟩)
      (rw [← HF.out])
      first
        | (simp [twoS, Hb.out, Hc.out, oneB]; done)
        | (simp only [twoS]; simp [Hc.out])
end Go.Proofs.YtdldochhondifaaGreatDoor
namespace Go.Proofs.YtdldochhondifaaGreatDoor
open Go.RowKit

/-- A call under way: the routine, where it goes on, its words. -/
structure Fr where
  r : Nat
  pc : Nat
  ws : List Int
/-- The machine: its calls under way, the newest first. -/
structure Mch where
  regs : List Int
  mem : List Int
  calls : List Fr
  input : List Int
  out : List Int
  steps : Nat
  state : Int
  value : Int
  over : Bool

def Mch.ends (s : Mch) (st : Int) : Mch := { s with state := st, over := true }
def Mch.set (s : Mch) (d n : Int) : Mch := { s with regs := s.regs.set d.toNat n }
def Mch.reg (s : Mch) (a : Int) : Int := s.regs.getD a.toNat 0
def goesS (op a b : Int) : Bool :=
  if op = 38 then decide (a ≠ 0) else if op = 39 then decide (a = 0) else if op = 40 then decide (a = b) else if op = 41 then decide (a ≠ b)
  else if op = 42 then decide (a < b) else if op = 43 then decide (a ≤ b) else true
def reckS (op d a b : Int) (s : Mch) : Mch := if (twoS op a b).2 then s.set d (twoS op a b).1 else s.ends 2
def loadS (d n : Int) (s : Mch) : Mch := if 0 ≤ n ∧ n < (s.mem.length : Int) then s.set d (s.mem.getD n.toNat 0) else s.ends 3
def storeS (n v : Int) (s : Mch) : Mch := if 0 ≤ n ∧ n < (s.mem.length : Int) then { s with mem := s.mem.set n.toNat v } else s.ends 3
def callS (n : Int) (s : Mch) : Mch := if s.calls.length = 30 then s.ends 4 else { s with calls := ⟨n.toNat, 0, List.replicate 120 0⟩ :: s.calls }
def retS (cs : List Fr) (s : Mch) : Mch := if cs.length = 0 then { s with calls := cs, value := s.reg 0, state := 0, over := true } else { s with calls := cs }
def readM (d : Int) (s : Mch) : Mch := match s.input with
  | [] => s.set d (-1)
  | x :: l => { s with regs := s.regs.set d.toNat x, input := l }
def printS (a : Int) (s : Mch) : Mch := if s.out.length = 200 then s.ends 5 else { s with out := s.out ++ [s.reg a] }
def movesS (i : Mac) (c : Fr) (cs : List Fr) (s : Mch) : Mch :=
  if i.op = 1 then s.set i.dst i.n
  else if i.op = 2 then s.set i.dst (s.reg i.a)
  else if i.op = 3 then s.set i.dst (wrap64 (-(s.reg i.a)))
  else if i.op = 4 then s.set i.dst (wrap64 (-(s.reg i.a) - 1))
  else if i.op = 33 then loadS i.dst (wrap64 (s.reg i.a + i.n)) s
  else if i.op = 34 then storeS (wrap64 (s.reg i.a + i.n)) (s.reg i.b) s
  else if i.op = 35 then s.set i.dst (c.ws.getD i.n.toNat 0)
  else { s with calls := { c with ws := c.ws.set i.n.toNat (s.reg i.a) } :: cs }
def speaksS (i : Mac) (cs : List Fr) (s : Mch) : Mch :=
  if i.op = 44 then callS i.n s
  else if i.op = 45 then retS cs s
  else if i.op = 46 then readM i.dst s
  else printS i.a s
/-- The instruction i done: c is the newest call (gone on already), cs those beneath. -/
def doS (i : Mac) (c : Fr) (cs : List Fr) (s : Mch) : Mch :=
  if 5 ≤ i.op ∧ i.op ≤ 18 then reckS (i.op - 3) i.dst (s.reg i.a) (s.reg i.b) s
  else if 19 ≤ i.op ∧ i.op ≤ 32 then reckS (i.op - 17) i.dst (s.reg i.a) i.n s
  else if 37 ≤ i.op ∧ i.op ≤ 43 then (if goesS i.op (s.reg i.a) (s.reg i.b) then { s with calls := { c with pc := i.n.toNat } :: cs } else s)
  else if 44 ≤ i.op then speaksS i cs s
  else movesS i c cs s
def macAt (codes : List (List Mac)) (r pc : Nat) : Mac := (codes.getD r []).getD pc ⟨0, 0, 0, 0, 0⟩
def Fr.next (c : Fr) : Fr := { c with pc := c.pc + 1 }
def Mch.begun (s : Mch) (c : Fr) (cs : List Fr) : Mch := { s with steps := s.steps + 1, calls := c.next :: cs }
def stepS (codes : List (List Mac)) (s : Mch) : Mch := match s.calls with
  | [] => s
  | c :: cs => doS (macAt codes c.r c.pc) c.next cs (s.begun c cs)
def runS (codes : List (List Mac)) (s0 : Mch) : Nat → Mch
  | 0 => s0
  | k + 1 => if (runS codes s0 k).over then runS codes s0 k else stepS codes (runS codes s0 k)
def Mch.pos (s : Mch) : Nat × Nat := match s.calls with
  | [] => (0, 0)
  | c :: _ => (c.r, c.pc)
def metS (codes : List (List Mac)) (s0 : Mch) : Nat → List (Nat × Nat)
  | 0 => []
  | k + 1 => if (runS codes s0 k).over then metS codes s0 k else metS codes s0 k ++ [(runS codes s0 k).pos]
def startS (mem input : List Int) : Mch := ⟨List.replicate 16 0, mem, [⟨0, 0, List.replicate 120 0⟩], input, [], 0, 0, 0, false⟩
/-- What a run that has stopped says: hungry, if it is not over. -/
def Mch.told (s : Mch) : Mch := if s.over then s else { s with state := 1 }

/-- An instruction of a list of so many, which calls one of so many routines. -/
structure GoodM (m : Mac) (len rts : Nat) : Prop where
  op1 : 1 ≤ m.op
  op2 : m.op ≤ 47
  d1 : 0 ≤ m.dst
  d2 : m.dst < 16
  a1 : 0 ≤ m.a
  a2 : m.a < 16
  b1 : 0 ≤ m.b
  b2 : m.b < 16
  w : m.op = 35 ∨ m.op = 36 → 0 ≤ m.n ∧ m.n < 120
  t : 37 ≤ m.op ∧ m.op ≤ 43 → 0 ≤ m.n ∧ m.n < (len : Int)
  r : m.op = 44 → 0 ≤ m.n ∧ m.n < (rts : Int)
structure GoodL (ms : List Mac) (rts : Nat) : Prop where
  many : ms.length ≤ 5000
  all : ∀ (j : Nat) (m : Mac), ms[j]? = some m → GoodM m ms.length rts
  last : ∃ m, ms[ms.length - 1]? = some m ∧ (m.op = 37 ∨ m.op = 45)
def GoodC (codes : List (List Mac)) : Prop := ∀ (r : Nat) (ms : List Mac), codes[r]? = some ms → GoodL ms codes.length
def GoodF (codes : List (List Mac)) (c : Fr) : Prop := ∃ ms, codes[c.r]? = some ms ∧ c.pc < ms.length ∧ c.ws.length = 120
structure GoodS (codes : List (List Mac)) (s : Mch) : Prop where
  regs : s.regs.length = 16
  out : s.out.length ≤ 200
  calls : s.calls.length ≤ 30
  frs : ∀ c ∈ s.calls, GoodF codes c
  some : s.over = false → s.calls ≠ []
  mem : s.mem.length ≤ 200
  input : s.input.length ≤ 30

theorem GoodL.pos {ms : List Mac} {n : Nat} (h : GoodL ms n) : 0 < ms.length := by
  obtain ⟨m, hm, _⟩ := h.last
  have := (List.getElem?_eq_some_iff.1 hm).1
  omega
theorem macAt_of {codes : List (List Mac)} {c : Fr} (h : GoodF codes c) : ∃ ms, codes[c.r]? = some ms ∧ ms[c.pc]? = some (macAt codes c.r c.pc) := by
  obtain ⟨ms, h1, h2, _⟩ := h
  refine ⟨ms, h1, ?_⟩
  unfold macAt
  simp only [List.getD_eq_getElem?_getD, h1, Option.getD_some, List.getElem?_eq_getElem h2]
theorem macAt_good {codes : List (List Mac)} {c : Fr} (hc : GoodC codes) (h : GoodF codes c) : ∃ ms, codes[c.r]? = some ms ∧ c.pc < ms.length ∧ ms[c.pc]? = some (macAt codes c.r c.pc) ∧ GoodM (macAt codes c.r c.pc) ms.length codes.length ∧
    ((macAt codes c.r c.pc).op ≠ 37 → (macAt codes c.r c.pc).op ≠ 45 → c.pc + 1 < ms.length) := by
  obtain ⟨ms, h1, h2⟩ := macAt_of h
  have hlt := (List.getElem?_eq_some_iff.1 h2).1
  refine ⟨ms, h1, hlt, h2, (hc _ _ h1).all _ _ h2, fun n1 n2 => ?_⟩
  obtain ⟨m, hm, ho⟩ := (hc _ _ h1).last
  rcases Nat.lt_or_ge (c.pc + 1) ms.length with h | h
  · exact h
  · exfalso
    have e : ms.length - 1 = c.pc := by omega
    rw [e, h2] at hm
    cases hm
    rcases ho with ho | ho
    · exact n1 ho
    · exact n2 ho
/-- What a step keeps beside the calls. -/
structure GoodB (s : Mch) : Prop where
  regs : s.regs.length = 16
  out : s.out.length ≤ 200
  mem : s.mem.length ≤ 200
  input : s.input.length ≤ 30
theorem GoodS.base {codes : List (List Mac)} {s : Mch} (h : GoodS codes s) : GoodB s := ⟨h.regs, h.out, h.mem, h.input⟩
theorem GoodB.good {codes : List (List Mac)} {s : Mch} (h : GoodB s) (h1 : s.calls.length ≤ 30) (h2 : ∀ c ∈ s.calls, GoodF codes c) (h3 : s.over = false → s.calls ≠ []) : GoodS codes s := ⟨h.regs, h.out, h1, h2, h3, h.mem, h.input⟩
theorem GoodB.set {s : Mch} (h : GoodB s) (d n : Int) : GoodB (s.set d n) := ⟨by simp [Mch.set, h.regs], h.out, h.mem, h.input⟩
theorem GoodB.ends {s : Mch} (h : GoodB s) (n : Int) : GoodB (s.ends n) := ⟨h.regs, h.out, h.mem, h.input⟩
section
variable {codes : List (List Mac)} {i : Mac} {c : Fr} {cs : List Fr} {s : Mch} {ms : List Mac}
theorem good_stay (hb : GoodB s) (hs : s.calls = c :: cs) (hl : s.calls.length ≤ 30) (hg : ∀ d ∈ s.calls, GoodF codes d) : GoodS codes s :=
  hb.good hl hg fun _ => by rw [hs]; simp
theorem good_set (hb : GoodB s) (hs : s.calls = c :: cs) (hl : s.calls.length ≤ 30) (hg : ∀ d ∈ s.calls, GoodF codes d) (d n : Int) : GoodS codes (s.set d n) :=
  good_stay (c := c) (cs := cs) (hb.set d n) hs hl hg
theorem good_ends (hb : GoodB s) (hs : s.calls = c :: cs) (hl : s.calls.length ≤ 30) (hg : ∀ d ∈ s.calls, GoodF codes d) (n : Int) : GoodS codes (s.ends n) :=
  good_stay (c := c) (cs := cs) (hb.ends n) hs hl hg
theorem good_do (hc : GoodC codes) (hb : GoodB s) (hs : s.calls = c :: cs) (hl : s.calls.length ≤ 30) (hr : codes[c.r]? = some ms) (hi : GoodM i ms.length codes.length) (hws : c.ws.length = 120)
    (hpc : i.op ≠ 37 → i.op ≠ 45 → c.pc < ms.length) (hcs : ∀ d ∈ cs, GoodF codes d) : GoodS codes (doS i c cs s) := by
  have hg : i.op ≠ 37 → i.op ≠ 45 → ∀ d ∈ s.calls, GoodF codes d := by
    intro h1 h2 d hd
    rw [hs, List.mem_cons] at hd
    rcases hd with rfl | hd
    · exact ⟨ms, hr, hpc h1 h2, hws⟩
    · exact hcs d hd
  unfold doS
  split
  · have hg := hg (by omega) (by omega)
    unfold reckS
    split
    · exact good_set hb hs hl hg _ _
    · exact good_ends hb hs hl hg _
  split
  · have hg := hg (by omega) (by omega)
    unfold reckS
    split
    · exact good_set hb hs hl hg _ _
    · exact good_ends hb hs hl hg _
  split
  · rename_i h37
    split
    · refine ⟨hb.regs, hb.out, ?_, ?_, ?_, hb.mem, hb.input⟩
      · rw [hs] at hl; simpa using hl
      · intro d hd
        simp only [List.mem_cons] at hd
        rcases hd with rfl | hd
        · have := hi.t h37
          exact ⟨ms, hr, by show i.n.toNat < ms.length; omega, hws⟩
        · exact hcs d hd
      · simp
    · rename_i hgo
      have hne : i.op ≠ 37 := by
        intro h
        apply hgo
        rw [h]
        simp [goesS]
      exact good_stay hb hs hl (hg hne (by omega))
  split
  · rename_i h37 h44
    unfold speaksS
    split
    · rename_i h
      have hg := hg (by omega) (by omega)
      unfold callS
      split
      · exact good_ends hb hs hl hg _
      · rename_i h30
        refine ⟨hb.regs, hb.out, by simp only [List.length_cons]; omega, ?_, by simp, hb.mem, hb.input⟩
        intro d hd
        simp only [List.mem_cons] at hd
        rcases hd with rfl | hd
        · have := hi.r h
          have hlt : i.n.toNat < codes.length := by omega
          exact ⟨codes[i.n.toNat], List.getElem?_eq_getElem hlt, (hc _ _ (List.getElem?_eq_getElem hlt)).pos, by simp⟩
        · exact hg d hd
    split
    · unfold retS
      rw [hs] at hl
      simp only [List.length_cons] at hl
      split
      · exact ⟨hb.regs, hb.out, by show cs.length ≤ 30; omega, hcs, by simp, hb.mem, hb.input⟩
      · rename_i hne
        exact ⟨hb.regs, hb.out, by show cs.length ≤ 30; omega, hcs, fun _ => by intro e; apply hne; rw [show cs = [] from e]; rfl, hb.mem, hb.input⟩
    have hg := hg (by omega) (by omega)
    split
    · unfold readM
      split
      · exact good_set hb hs hl hg _ _
      · rename_i x l hin
        have := hb.input
        rw [hin, List.length_cons] at this
        exact good_stay (c := c) (cs := cs) ⟨by simp [hb.regs], hb.out, hb.mem, by show l.length ≤ 30; omega⟩ hs hl hg
    · unfold printS
      split
      · exact good_ends hb hs hl hg _
      · have := hb.out
        exact good_stay (c := c) (cs := cs) ⟨hb.regs, by simp; omega, hb.mem, hb.input⟩ hs hl hg
  · have hg := hg (by omega) (by omega)
    unfold movesS
    split
    · exact good_set hb hs hl hg _ _
    split
    · exact good_set hb hs hl hg _ _
    split
    · exact good_set hb hs hl hg _ _
    split
    · exact good_set hb hs hl hg _ _
    split
    · unfold loadS
      split
      · exact good_set hb hs hl hg _ _
      · exact good_ends hb hs hl hg _
    split
    · unfold storeS
      split
      · exact good_stay (c := c) (cs := cs) ⟨hb.regs, hb.out, by simp [hb.mem], hb.input⟩ hs hl hg
      · exact good_ends hb hs hl hg _
    split
    · exact good_set hb hs hl hg _ _
    · refine ⟨hb.regs, hb.out, by rw [hs] at hl; simpa using hl, ?_, by simp, hb.mem, hb.input⟩
      intro d hd
      simp only [List.mem_cons] at hd
      rcases hd with rfl | hd
      · have hlt := hpc (by omega) (by omega)
        exact ⟨ms, hr, hlt, by simp [hws]⟩
      · exact hcs d hd
end
theorem good_step {codes : List (List Mac)} {s : Mch} (hc : GoodC codes) (h : GoodS codes s) : GoodS codes (stepS codes s) := by
  unfold stepS
  cases hs : s.calls with
  | nil => exact h
  | cons c cs =>
    have hF := h.frs c (by rw [hs]; simp)
    obtain ⟨ms, h1, _, h3, h4, h5⟩ := macAt_good hc hF
    have hl := h.calls
    rw [hs] at hl
    exact good_do (c := c.next) (cs := cs) hc ⟨h.regs, h.out, h.mem, h.input⟩ rfl (by simpa [Mch.begun] using hl) h1 h4 (by obtain ⟨_, _, _, h⟩ := hF; exact h) h5 fun d hd => h.frs d (by rw [hs]; simp [hd])
theorem good_run {codes : List (List Mac)} {s : Mch} (hc : GoodC codes) (h : GoodS codes s) : ∀ k, GoodS codes (runS codes s k)
  | 0 => h
  | k + 1 => by
    show GoodS codes (if _ then _ else _)
    split
    · exact good_run hc h k
    · exact good_step hc (good_run hc h k)
theorem good_start {codes : List (List Mac)} {mem input : List Int} (hc : GoodC codes) (h0 : 0 < codes.length) (hm : mem.length ≤ 200) (hi : input.length ≤ 30) : GoodS codes (startS mem input) := by
  refine ⟨by simp [startS], by simp [startS], by simp [startS], ?_, by simp [startS], hm, hi⟩
  intro c hc'
  simp only [startS, List.mem_singleton] at hc'
  subst hc'
  exact ⟨codes[0], List.getElem?_eq_getElem h0, (hc _ _ (List.getElem?_eq_getElem h0)).pos, by simp⟩

theorem do_steps (i : Mac) (c : Fr) (cs : List Fr) (s : Mch) : (doS i c cs s).steps = s.steps := by
  unfold doS
  repeat' split
  all_goals first | rfl | (unfold reckS; split <;> rfl) | skip
  · unfold speaksS
    repeat' split
    · unfold callS; split <;> rfl
    · unfold retS; split <;> rfl
    · unfold readM; split <;> rfl
    · unfold printS; split <;> rfl
  · unfold movesS
    repeat' split
    all_goals first | rfl | (unfold loadS; split <;> rfl) | (unfold storeS; split <;> rfl)
theorem step_steps {codes : List (List Mac)} {s : Mch} (h : GoodS codes s) (ho : s.over = false) : (stepS codes s).steps = s.steps + 1 := by
  unfold stepS
  cases hs : s.calls with
  | nil => exact absurd hs (h.some ho)
  | cons c cs => exact do_steps _ _ _ _
end Go.Proofs.YtdldochhondifaaGreatDoor
namespace Go.Proofs.YtdldochhondifaaGreatDoor
open Go.RowKit

theorem goes_any (op a b : Int) (w : World) (h1 : 37 ≤ op) (h2 : op ≤ 43) : Calls Tryz.prog 163 #[.int .i64 op, .int .i64 a, .int .i64 b] w fun e w' => e = .returned (.bool (goesS op a b)) ∧ w = w' := by
  obtain rfl | rfl | rfl | rfl | rfl | rfl | rfl : op = 37 ∨ op = 38 ∨ op = 39 ∨ op = 40 ∨ op = 41 ∨ op = 42 ∨ op = 43 := by omega
  all_goals
    clear h1 h2
    go_enter Tryz.func163, Tryz.ntmps163
    go_wp2_with fail
    go_ret
    refine ⟨ret_bool ?_, rfl⟩
    simp [goesS, bne]
    try (cases h : (a == 0) <;> simp_all; done)
    try (cases h : (a == b) <;> simp_all; done)
end Go.Proofs.YtdldochhondifaaGreatDoor
namespace Go.Proofs.YtdldochhondifaaGreatDoor
open Go.RowKit

def intV (l : List Int) : List Value := l.map (Value.int .i64)
theorem intV_len (l : List Int) : (intV l).length = l.length := List.length_map _
theorem intV_at (l : List Int) (k : Nat) : (intV l)[k]? = l[k]?.map (Value.int .i64) := List.getElem?_map
theorem intV_get (l : List Int) (k : Nat) (h : k < l.length) : (intV l)[k]? = some (.int .i64 (l.getD k 0)) := by
  rw [intV_at, List.getElem?_eq_getElem h, List.getD_eq_getElem?_getD, List.getElem?_eq_getElem h]
  rfl
theorem intV_set (l : List Int) (k : Nat) (n : Int) : intV (l.set k n) = (intV l).set k (.int .i64 n) := List.map_set
theorem intV_one (l : List Int) : ∀ u ∈ intV l, u.oneCell' = true := by
  intro u hu
  obtain ⟨n, _, rfl⟩ := List.mem_map.1 hu
  rfl
/-- The machine's cells. -/
def machCells (cv mv lv iv ov : Value) (s : Mch) : List Value :=
  cv :: (intV s.regs ++ [mv, lv, iv, .int .i64 s.state, .int .i64 s.value, ov, .int .i64 (s.steps : Int), .bool s.over])
def frCells (c : Fr) : List Value := .int .i64 (c.r : Int) :: .int .i64 (c.pc : Int) :: intV c.ws
def ptrV (p : Nat) : Value := .pointer (some ⟨p, 0, none⟩)
section
variable {cv mv lv iv ov : Value} {s : Mch}
theorem mach_reg (h : s.regs.length = 16) {a : Nat} (ha : a < 16) : (machCells cv mv lv iv ov s).toArray[1 + a]? = some (.int .i64 (s.regs.getD a 0)) := by
  unfold machCells
  rw [List.getElem?_toArray, Nat.add_comm, List.getElem?_cons_succ, List.getElem?_append_left (by rw [intV_len]; omega), intV_get _ _ (by omega)]
theorem mach_tail (h : s.regs.length = 16) (j : Nat) : (machCells cv mv lv iv ov s).toArray[17 + j]? = [mv, lv, iv, .int .i64 s.state, .int .i64 s.value, ov, .int .i64 (s.steps : Int), .bool s.over][j]? := by
  unfold machCells
  rw [List.getElem?_toArray, show 17 + j = (16 + j) + 1 by omega, List.getElem?_cons_succ, List.getElem?_append_right (by rw [intV_len]; omega), intV_len, h]
  congr 1
  omega
theorem mach_codes : (machCells cv mv lv iv ov s).toArray[0]? = some cv := rfl
theorem mach_set_reg (d : Nat) (n : Int) (h : s.regs.length = 16) (hd : d < 16) : (machCells cv mv lv iv ov s).toArray.setIfInBounds (1 + d) (.int .i64 n) = (machCells cv mv lv iv ov { s with regs := s.regs.set d n }).toArray := by
  unfold machCells
  rw [List.setIfInBounds_toArray, Nat.add_comm, List.set_cons_succ, List.set_append_left _ _ (by rw [intV_len]; omega), ← intV_set]
theorem mach_set_tail (j : Nat) (u : Value) (h : s.regs.length = 16) : (machCells cv mv lv iv ov s).toArray.setIfInBounds (17 + j) u = (cv :: (intV s.regs ++ [mv, lv, iv, .int .i64 s.state, .int .i64 s.value, ov, .int .i64 (s.steps : Int), .bool s.over].set j u)).toArray := by
  unfold machCells
  rw [List.setIfInBounds_toArray, show 17 + j = (16 + j) + 1 by omega, List.set_cons_succ, List.set_append_right _ _ (by rw [intV_len]; omega), intV_len, h, show 16 + j - 16 = j by omega]
theorem mach_set_mem (x : Value) (h : s.regs.length = 16) : (machCells cv mv lv iv ov s).toArray.setIfInBounds 17 x = (machCells cv x lv iv ov s).toArray := mach_set_tail 0 x h
theorem mach_set_calls (x : Value) (h : s.regs.length = 16) : (machCells cv mv lv iv ov s).toArray.setIfInBounds 18 x = (machCells cv mv x iv ov s).toArray := mach_set_tail 1 x h
theorem mach_set_input (x : Value) (h : s.regs.length = 16) : (machCells cv mv lv iv ov s).toArray.setIfInBounds 19 x = (machCells cv mv lv x ov s).toArray := mach_set_tail 2 x h
theorem mach_set_state (n : Int) (h : s.regs.length = 16) : (machCells cv mv lv iv ov s).toArray.setIfInBounds 20 (.int .i64 n) = (machCells cv mv lv iv ov { s with state := n }).toArray := mach_set_tail 3 _ h
theorem mach_set_value (n : Int) (h : s.regs.length = 16) : (machCells cv mv lv iv ov s).toArray.setIfInBounds 21 (.int .i64 n) = (machCells cv mv lv iv ov { s with value := n }).toArray := mach_set_tail 4 _ h
theorem mach_set_out (x : Value) (h : s.regs.length = 16) : (machCells cv mv lv iv ov s).toArray.setIfInBounds 22 x = (machCells cv mv lv iv x s).toArray := mach_set_tail 5 x h
theorem mach_set_steps (n : Nat) (h : s.regs.length = 16) : (machCells cv mv lv iv ov s).toArray.setIfInBounds 23 (.int .i64 (n : Int)) = (machCells cv mv lv iv ov { s with steps := n }).toArray := mach_set_tail 6 _ h
theorem mach_set_over (b : Bool) (h : s.regs.length = 16) : (machCells cv mv lv iv ov s).toArray.setIfInBounds 24 (.bool b) = (machCells cv mv lv iv ov { s with over := b }).toArray := mach_set_tail 7 _ h
end
/-- The calls under way: a block each. -/
def FrsAt (w : World) (base : Nat) : List Nat → List Fr → Prop
  | [], [] => True
  | p :: ps, c :: cs => base ≤ p ∧ p ∉ ps ∧ Blk w p 193 (frCells c).toArray ∧ FrsAt w base ps cs
  | _, _ => False
theorem FrsAt.len {w : World} {base : Nat} : ∀ {ps : List Nat} {cs : List Fr}, FrsAt w base ps cs → ps.length = cs.length
  | [], [], _ => rfl
  | _ :: _, _ :: _, h => by simp [h.2.2.2.len]
theorem FrsAt.keep {w w' : World} {base : Nat} : ∀ {ps : List Nat} {cs : List Fr}, FrsAt w base ps cs → (∀ p ∈ ps, ∀ l, Blk w p 193 l → Blk w' p 193 l) → FrsAt w' base ps cs
  | [], [], _, _ => trivial
  | p :: _, _ :: _, ⟨h1, h2, h3, h4⟩, hk => ⟨h1, h2, hk p (by simp) _ h3, h4.keep fun q hq => hk q (by simp [hq])⟩
theorem FrsAt.lt {w : World} {base : Nat} : ∀ {ps : List Nat} {cs : List Fr}, FrsAt w base ps cs → ∀ p ∈ ps, p < w.heap.size
  | [], [], _, _, hp => by cases hp
  | _ :: _, _ :: _, ⟨_, _, h3, h4⟩, _, hp => by
    rcases List.mem_cons.1 hp with rfl | hp
    · exact h3.lt
    · exact h4.lt _ hp
theorem FrsAt.below {w w' : World} {base : Nat} {ps : List Nat} {cs : List Fr} (h : FrsAt w base ps cs) (hb : Below w.heap.size w w') : FrsAt w' base ps cs :=
  h.keep fun _ _ _ hp => hp.below hb hp.lt
theorem row_lt {w : World} {base : Nat} {e : TypeId} {size n : Nat} {v : Value} {xs : List Value} (h : w.ownsRow base e size v n xs) {w' : World} (hb : Below w.heap.size w w') : w'.ownsRow base e size v n xs := by
  refine World.ownsRow.kept (row := none) h ⟨hb.os, hb.tape, hb.output, hb.size, fun k hk _ => hb.block k hk⟩ ?_
  cases v.ownBlock <;> simp
/-- A row stands where a block of another element type is written. -/
theorem row_far {w : World} {base : Nat} {e : TypeId} {size n : Nat} {v : Value} {xs : List Value} (h : w.ownsRow base e size v n xs) {g o : Nat} {t : TypeId} {cs : Array Value} (hb : Blk w g t cs) (hne : e ≠ t) (u : Value) : (w.setCell ⟨g, o, none⟩ u).ownsRow base e size v n xs := by
  refine ownsRow_setCell_other h ?_ u
  rcases h.2 with ⟨rfl, _⟩ | ⟨g', cap, cur, rfl, _, hg, _⟩
  · simp [Value.ownBlock]
  · simp only [Value.ownBlock, ne_eq, Option.some.injEq]
    rintro rfl
    unfold Blk at hb
    rw [hg] at hb
    simp only [Option.some.injEq, Obj.cells.injEq] at hb
    exact hne hb.2.1
/-- All but the machine's own block. -/
structure MRest (w : World) (base : Nat) (codes : List (List Mac)) (mem : List Int) (calls : List Fr) (input out : List Int) (cv mv lv iv ov : Value) (ps : List Nat) : Prop where
  hcodes : CodesAt w base cv codes
  hmem : w.ownsRow base 3 1 mv mem.length (intV mem)
  hcalls : w.ownsRow base 190 1 lv ps.length (ps.reverse.map ptrV)
  hinput : IntsAt w base iv input
  hout : w.ownsRow base 3 1 ov out.length (intV out)
  apart : ∀ k, mv.ownBlock = some k → ov.ownBlock ≠ some k
  frs : FrsAt w base ps calls
theorem MRest.below {w w' : World} {base : Nat} {codes : List (List Mac)} {mem : List Int} {calls : List Fr} {input out : List Int} {cv mv lv iv ov : Value} {ps : List Nat} (h : MRest w base codes mem calls input out cv mv lv iv ov ps) (hz : base ≤ w.heap.size) (hb : Below w.heap.size w w') : MRest w' base codes mem calls input out cv mv lv iv ov ps :=
  ⟨h.hcodes.below hb hz, row_lt h.hmem hb, row_lt h.hcalls hb, h.hinput.below hb hz, row_lt h.hout hb, h.apart, h.frs.below hb⟩
theorem MRest.setg {w : World} {base : Nat} {codes : List (List Mac)} {mem : List Int} {calls : List Fr} {input out : List Int} {cv mv lv iv ov : Value} {ps : List Nat} (h : MRest w base codes mem calls input out cv mv lv iv ov ps) {g o : Nat} {cs : Array Value} (hb : Blk w g 197 cs) (hg : base ≤ g) (u : Value) :
    MRest (w.setCell ⟨g, o, none⟩ u) base codes mem calls input out cv mv lv iv ov ps := by
  have hw : Below base w (w.setCell ⟨g, o, none⟩ u) := (Below.refl base w).setCell hg u
  refine ⟨h.hcodes.below hw (Nat.le_refl _), row_far h.hmem hb (by decide) u, row_far h.hcalls hb (by decide) u, h.hinput.below hw (Nat.le_refl _), row_far h.hout hb (by decide) u, h.apart, h.frs.keep fun p _ l hp => hp.far ?_ u⟩
  rintro rfl
  unfold Blk at hb hp
  rw [hb] at hp
  simp at hp
/-- The machine in block g is in the state s. -/
def MachIs (w : World) (base g : Nat) (codes : List (List Mac)) (s : Mch) : Prop :=
  base ≤ g ∧ ∃ cv mv lv iv ov ps, Blk w g 197 (machCells cv mv lv iv ov s).toArray ∧ MRest w base codes s.mem s.calls s.input s.out cv mv lv iv ov ps
theorem MachIs.below {w w' : World} {base g : Nat} {codes : List (List Mac)} {s : Mch} (h : MachIs w base g codes s) (hb : Below w.heap.size w w') : MachIs w' base g codes s := by
  obtain ⟨hg, cv, mv, lv, iv, ov, ps, h1, h2⟩ := h
  exact ⟨hg, cv, mv, lv, iv, ov, ps, h1.below hb h1.lt, h2.below (by have := h1.lt; omega) hb⟩
/-- A store into the machine's block. -/
theorem mset {w : World} {base g : Nat} {codes : List (List Mac)} {s s' : Mch} {mem : List Int} {calls : List Fr} {input out : List Int} {cv mv lv iv ov cv' mv' lv' iv' ov' cx mx lx ix ox : Value} {ps : List Nat} {o : Nat} {u : Value}
    (h : Blk w g 197 (machCells cv mv lv iv ov s).toArray ∧ MRest w base codes mem calls input out cx mx lx ix ox ps) (hg : base ≤ g) (he : (machCells cv mv lv iv ov s).toArray.setIfInBounds o u = (machCells cv' mv' lv' iv' ov' s').toArray) :
    Blk (w.setCell ⟨g, o, none⟩ u) g 197 (machCells cv' mv' lv' iv' ov' s').toArray ∧ MRest (w.setCell ⟨g, o, none⟩ u) base codes mem calls input out cx mx lx ix ox ps :=
  ⟨he ▸ h.1.set_ o u, h.2.setg h.1 hg u⟩
/-- What a method of the machine comes to. -/
def MachPost (w : World) (base g : Nat) (codes : List (List Mac)) (s : Mch) (v : Value) (e : Ending) (w' : World) : Prop := e = .returned v ∧ MachIs w' base g codes s ∧ Below base w w'
end Go.Proofs.YtdldochhondifaaGreatDoor
namespace Go.Proofs.YtdldochhondifaaGreatDoor
open Go.RowKit

theorem fr_r (c : Fr) : (frCells c).toArray[0]? = some (.int .i64 (c.r : Int)) := rfl
theorem fr_pc (c : Fr) : (frCells c).toArray[1]? = some (.int .i64 (c.pc : Int)) := rfl
theorem fr_ws (c : Fr) {k : Nat} (h : k < c.ws.length) : (frCells c).toArray[2 + k]? = some (.int .i64 (c.ws.getD k 0)) := by
  unfold frCells
  rw [List.getElem?_toArray, show 2 + k = (k + 1) + 1 by omega, List.getElem?_cons_succ, List.getElem?_cons_succ, intV_get _ _ h]
theorem fr_set_pc (c : Fr) (n : Nat) : (frCells c).toArray.setIfInBounds 1 (.int .i64 (n : Int)) = (frCells { c with pc := n }).toArray := by
  unfold frCells
  rw [List.setIfInBounds_toArray, List.set_cons_succ, List.set_cons_zero]
theorem fr_set_ws (c : Fr) (k : Nat) (n : Int) : (frCells c).toArray.setIfInBounds (2 + k) (.int .i64 n) = (frCells { c with ws := c.ws.set k n }).toArray := by
  unfold frCells
  rw [List.setIfInBounds_toArray, show 2 + k = (k + 1) + 1 by omega, List.set_cons_succ, List.set_cons_succ, ← intV_set]
theorem Blk.types {w : World} {g g' : Nat} {t t' : TypeId} {cs cs' : Array Value} (h : Blk w g t cs) (h' : Blk w g' t' cs') (hne : t ≠ t') : g ≠ g' := by
  rintro rfl
  unfold Blk at h h'
  rw [h] at h'
  simp only [Option.some.injEq, Obj.cells.injEq] at h'
  exact hne h'.2.1
/-- The block of a row that is not nil. -/
theorem row_blk {w : World} {base : Nat} {e : TypeId} {size n b cap : Nat} {xs : List Value} (h : w.ownsRow base e size (.slice (some ⟨b, 0, none⟩) n cap) n xs) : base ≤ b ∧ ∃ cur, Blk w b e cur := by
  rcases h.2 with ⟨h', _⟩ | ⟨g', cap', cur', h', hb, hg, _⟩
  · simp at h'
  · simp only [Value.slice.injEq, Option.some.injEq, Addr.mk.injEq, and_true, true_and] at h'
    obtain ⟨rfl, rfl⟩ := h'
    exact ⟨hb, _, hg⟩
theorem row_some {w : World} {base : Nat} {e : TypeId} {size n : Nat} {v : Value} {xs : List Value} (h : w.ownsRow base e size v n xs) (hn : 0 < n) : ∃ b cap, v = .slice (some ⟨b, 0, none⟩) n cap ∧ n ≤ cap ∧ cap ≤ 9223372036854775807 := by
  rcases h.2 with ⟨_, h0⟩ | ⟨g, cap, cur, rfl, _, _, h1, h2, _⟩
  · omega
  · exact ⟨g, cap, rfl, h1, by unfold maxLen at h2; omega⟩
section
variable {w : World} {base g : Nat} {codes : List (List Mac)} {mem : List Int} {c : Fr} {calls cs : List Fr} {input out : List Int} {cv mv lv iv ov : Value} {p : Nat} {ps : List Nat} {ms : Array Value}
theorem MRest.top (h : MRest w base codes mem (c :: cs) input out cv mv lv iv ov (p :: ps)) : base ≤ p ∧ Blk w p 193 (frCells c).toArray := ⟨h.frs.1, h.frs.2.2.1⟩
theorem MRest.setp (h : MRest w base codes mem (c :: cs) input out cv mv lv iv ov (p :: ps)) (hg : Blk w g 197 ms) (c' : Fr) {o : Nat} {u : Value} (he : (frCells c).toArray.setIfInBounds o u = (frCells c').toArray) :
    Blk (w.setCell ⟨p, o, none⟩ u) g 197 ms ∧ MRest (w.setCell ⟨p, o, none⟩ u) base codes mem (c' :: cs) input out cv mv lv iv ov (p :: ps) := by
  obtain ⟨hp, hpb⟩ := h.top
  have hw : Below base w (w.setCell ⟨p, o, none⟩ u) := (Below.refl base w).setCell hp u
  refine ⟨hg.far (hg.types hpb (by decide)) u, h.hcodes.below hw (Nat.le_refl _), row_far h.hmem hpb (by decide) u, row_far h.hcalls hpb (by decide) u, h.hinput.below hw (Nat.le_refl _), row_far h.hout hpb (by decide) u, h.apart, hp, h.frs.2.1, ?_, ?_⟩
  · rw [← he]
    exact hpb.set_ o u
  · refine h.frs.2.2.2.keep fun q hq l hl => hl.far ?_ u
    rintro rfl
    exact h.frs.2.1 hq
theorem MRest.setmem {b cap k : Nat} (h : MRest w base codes mem calls input out cv (.slice (some ⟨b, 0, none⟩) mem.length cap) lv iv ov ps) (hg : Blk w g 197 ms) (n : Int) :
    Blk (w.setCell ⟨b, k, none⟩ (.int .i64 n)) g 197 ms ∧ MRest (w.setCell ⟨b, k, none⟩ (.int .i64 n)) base codes (mem.set k n) calls input out cv (.slice (some ⟨b, 0, none⟩) mem.length cap) lv iv ov ps := by
  obtain ⟨hb, cur, hbb⟩ := row_blk h.hmem
  have hw : Below base w (w.setCell ⟨b, k, none⟩ (.int .i64 n)) := (Below.refl base w).setCell hb _
  have hs := (World.ownsRow.stored h.hmem k (.int .i64 n)).1
  rw [← intV_set] at hs
  refine ⟨hg.far (hg.types hbb (by decide)) _, h.hcodes.below hw (Nat.le_refl _), by rw [List.length_set]; exact hs, row_far h.hcalls hbb (by decide) _, h.hinput.below hw (Nat.le_refl _), ownsRow_setCell_other h.hout ?_ _, h.apart, h.frs.keep fun q hq l hl => hl.far (hl.types hbb (by decide)) _⟩
  exact h.apart b rfl
theorem mem_cell {b cap k : Nat} (h : MRest w base codes mem calls input out cv (.slice (some ⟨b, 0, none⟩) mem.length cap) lv iv ov ps) (hk : k < mem.length) : w.cell? ⟨b, k, none⟩ = some (.int .i64 (mem.getD k 0)) ∧ w.frozen? ⟨b, k, none⟩ = false := by
  refine ⟨?_, World.ownsRow.frozenAt h.hmem k⟩
  rw [World.ownsRow.cellAt h.hmem k (by omega), intV_get _ _ hk]
/-- The cell of the calls' row that leads to the newest. -/
theorem top_cell {b cap : Nat} (h : MRest w base codes mem calls input out cv mv (.slice (some ⟨b, 0, none⟩) (ps.length + 1) cap) iv ov (p :: ps)) : w.cell? ⟨b, ps.length, none⟩ = some (ptrV p) := by
  have hc : w.ownsRow base 190 1 (.slice (some ⟨b, 0, none⟩) (ps.length + 1) cap) (ps.length + 1) ((p :: ps).reverse.map ptrV) := h.hcalls
  rw [World.ownsRow.cellAt hc ps.length (by omega), List.reverse_cons, List.map_append, List.getElem?_append_right (by simp)]
  simp
theorem MRest.pop {b cap : Nat} (h : MRest w base codes mem (c :: cs) input out cv mv (.slice (some ⟨b, 0, none⟩) (ps.length + 1) cap) iv ov (p :: ps)) : MRest w base codes mem cs input out cv mv (.slice (some ⟨b, 0, none⟩) ps.length cap) iv ov ps := by
  have hc : w.ownsRow base 190 1 (.slice (some ⟨b, 0, none⟩) (ps.length + 1) cap) (ps.length + 1) ((p :: ps).reverse.map ptrV) := h.hcalls
  rw [List.reverse_cons, List.map_append] at hc
  exact ⟨h.hcodes, h.hmem, ownsRow_pop (by simp) hc, h.hinput, h.hout, h.apart, h.frs.2.2.2⟩
end
set_option maxRecDepth 100000 in
theorem newFr (n : Nat) : (Tryz.zeroCells193).setIfInBounds 0 (.int .i64 (n : Int)) = (frCells ⟨n, 0, List.replicate 120 0⟩).toArray := by kernel_rfl
theorem below_drew1 {w w' : World} {B : Nat} (h : Below B w w') : Below B w w'.drew := h.trans ⟨rfl, rfl, rfl, Nat.le_refl _, fun _ _ => rfl⟩
section
variable {w w4 : World} {base g H : Nat} {codes : List (List Mac)} {mem : List Int} {calls : List Fr} {input out : List Int} {cv mv lv lv' iv ov ov' : Value} {ps : List Nat} {ms : Array Value}
/-- The calls' row has grown by a new call's block. -/
theorem MRest.push (h : Blk w g 197 ms ∧ MRest w base codes mem calls input out cv mv lv iv ov ps) (hg : base ≤ g) (c : Fr) {n : Nat} (hn : n = ps.length)
    (ap : Appended ((w.alloc (.cells (frCells c).toArray 193)).alloc (.cells #[ptrV w.heap.size] 190)).drew base 190 1 lv (n + 1) (ps.reverse.map ptrV ++ [ptrV w.heap.size]) H lv' w4) :
    Blk w4 g 197 ms ∧ MRest w4 base codes mem (c :: calls) input out cv mv lv' iv ov (w.heap.size :: ps) ∧ Below base w w4 := by
  subst hn
  have hz : base ≤ w.heap.size := by have := h.1.lt; omega
  have hW : Below w.heap.size w ((w.alloc (.cells (frCells c).toArray 193)).alloc (.cells #[ptrV w.heap.size] 190)).drew := below_drew1 (((Below.refl _ _).alloc (Nat.le_refl _) _).alloc (by simp) _)
  have hq : Blk ((w.alloc (.cells (frCells c).toArray 193)).alloc (.cells #[ptrV w.heap.size] 190)).drew w.heap.size 193 (frCells c).toArray := (Blk.new w _ _).alloc _
  have h1 := h.1.below hW h.1.lt
  have h2 := h.2.below hz hW
  have hzW : base ≤ ((w.alloc (.cells (frCells c).toArray 193)).alloc (.cells #[ptrV w.heap.size] 190)).drew.heap.size := Nat.le_trans hz hW.size
  have hlt := h.2.frs.lt
  generalize ((w.alloc (.cells (frCells c).toArray 193)).alloc (.cells #[ptrV w.heap.size] 190)).drew = W at *
  refine ⟨ap.blk h2.hcalls h1 (by decide), ⟨h2.hcodes.below ap.below (Nat.le_refl _), ap.row h2.hmem (own_apart2 h2.hmem h2.hcalls (by decide)), ?_, h2.hinput.below ap.below (Nat.le_refl _), ap.row h2.hout (own_apart2 h2.hout h2.hcalls (by decide)), h2.apart, hz, ?_, ap.blk h2.hcalls hq (by decide), ?_⟩, (hW.mono hz).trans ap.below⟩
  · have := ap.own
    rw [List.reverse_cons, List.map_append]
    exact this
  · intro hm
    exact absurd (hlt _ hm) (Nat.lt_irrefl _)
  · exact h2.frs.keep fun p _ l hp => ap.blk h2.hcalls hp (by decide)
/-- The printed numbers' row has grown. -/
theorem MRest.print (h : Blk w g 197 ms ∧ MRest w base codes mem calls input out cv mv lv iv ov ps) (hg : base ≤ g) (x : Int) {n : Nat} (hn : n = out.length)
    (ap : Appended (w.alloc (.cells #[.int .i64 x] 3)).drew base 3 1 ov (n + 1) (intV out ++ [.int .i64 x]) (w.heap.size + 1) ov' w4) :
    Blk w4 g 197 ms ∧ MRest w4 base codes mem calls input (out ++ [x]) cv mv lv iv ov' ps ∧ Below base w w4 := by
  subst hn
  have hz : base ≤ w.heap.size := by have := h.1.lt; omega
  have hW : Below w.heap.size w (w.alloc (.cells #[.int .i64 x] 3)).drew := below_drew1 ((Below.refl _ _).alloc (Nat.le_refl _) _)
  have h1 := h.1.below hW h.1.lt
  have h2 := h.2.below hz hW
  have hml := World.ownsRow.lt h.2.hmem
  generalize (w.alloc (.cells #[.int .i64 x] 3)).drew = W at *
  refine ⟨ap.blk h2.hout h1 (by decide), ⟨h2.hcodes.below ap.below (Nat.le_refl _), ap.row h2.hmem h2.apart, ap.row h2.hcalls (own_apart2 h2.hcalls h2.hout (by decide)), h2.hinput.below ap.below (Nat.le_refl _), ?_, ?_, h2.frs.keep fun p _ l hp => ap.blk h2.hout hp (by decide)⟩, (hW.mono hz).trans ap.below⟩
  · have := ap.own
    rw [List.length_append, show intV (out ++ [x]) = intV out ++ [.int .i64 x] by unfold intV; simp]
    exact this
  · intro k hk
    rcases ap.2.2.2 with e | e
    · rw [e]
      exact h2.apart k hk
    · rw [e]
      have := (hml k hk).2
      simp only [ne_eq, Option.some.injEq]
      omega
end
end Go.Proofs.YtdldochhondifaaGreatDoor
namespace Go.Proofs.YtdldochhondifaaGreatDoor
open Go.RowKit

theorem ends_any (st : Int) (w : World) (base g : Nat) (codes : List (List Mac)) (s : Mch) (h : MachIs w base g codes s) (hr : s.regs.length = 16) :
    Calls Tryz.prog 185 #[.pointer (some ⟨g, 0, none⟩), .int .i64 st] w (MachPost w base g codes (s.ends st) (.tuple #[])) := by
  obtain ⟨hg, cv, mv, lv, iv, ov, ps, h⟩ := h
  have f20 := h.1.frozen 20
  have f24 := h.1.frozen 24
  have c20 := (h.1.cell 20).trans (mach_tail hr 3)
  have c24 := (h.1.cell 24).trans (mach_tail hr 7)
  simp only [List.getElem?_cons_succ, List.getElem?_cons_zero] at c20 c24
  have H := Lib.hid h
  have Hr := Lib.hid hr
  clear h hr
  go_enter Tryz.func185, Tryz.ntmps185
  go_wp2_with fail
  go_end0
  have h2 := mset (mset H.out hg (mach_set_state st Hr.out)) hg (mach_set_over true Hr.out)
  exact ⟨rfl, ⟨hg, cv, mv, lv, iv, ov, ps, h2.1, h2.2⟩, ((Below.refl _ _).setCell hg _).setCell hg _⟩
theorem place_yes (n : Int) (w : World) (base g : Nat) (codes : List (List Mac)) (s : Mch) (h : MachIs w base g codes s) (hr : s.regs.length = 16) (h0 : 0 ≤ n) (h1 : n < (s.mem.length : Int)) :
    Calls Tryz.prog 186 #[.pointer (some ⟨g, 0, none⟩), .int .i64 n] w fun e w' => e = .returned (.bool true) ∧ w = w' := by
  obtain ⟨hg, cv, mv, lv, iv, ov, ps, h⟩ := h
  have c17 := (h.1.cell 17).trans (mach_tail hr 0)
  simp only [List.getElem?_cons_zero] at c17
  obtain ⟨Am, cm, hmv⟩ := row_form h.2.hmem
  subst hmv
  clear h hr
  go_enter Tryz.func186, Tryz.ntmps186
  go_wp2_with fail
  go_ret
  exact ⟨rfl, rfl⟩
theorem place_no (n : Int) (w : World) (base g : Nat) (codes : List (List Mac)) (s : Mch) (h : MachIs w base g codes s) (hr : s.regs.length = 16) (h1 : ¬ (0 ≤ n ∧ n < (s.mem.length : Int))) :
    Calls Tryz.prog 186 #[.pointer (some ⟨g, 0, none⟩), .int .i64 n] w (MachPost w base g codes (s.ends 3) (.bool false)) := by
  have HC := Lib.hid (ends_any 3 w base g codes s h hr)
  obtain ⟨hg, cv, mv, lv, iv, ov, ps, h⟩ := h
  have c17 := (h.1.cell 17).trans (mach_tail hr 0)
  simp only [List.getElem?_cons_zero] at c17
  obtain ⟨Am, cm, hmv⟩ := row_form h.2.hmem
  subst hmv
  clear h hr
  by_cases h0 : n < 0
  · clear h1
    go_enter Tryz.func186, Tryz.ntmps186
    go_wp2_with (go_at_call 185; refine HC.out.mono ?_; rintro e w' ⟨rfl, hm, hb⟩)
    go_ret
    exact ⟨rfl, hm, hb⟩
  · have h2 : (s.mem.length : Int) ≤ n := by omega
    clear h1
    go_enter Tryz.func186, Tryz.ntmps186
    go_wp2_with (go_at_call 185; refine HC.out.mono ?_; rintro e w' ⟨rfl, hm, hb⟩)
    go_ret
    exact ⟨rfl, hm, hb⟩
theorem reckon_any (op d a b : Int) (w : World) (base g : Nat) (codes : List (List Mac)) (s : Mch) (h : MachIs w base g codes s) (hr : s.regs.length = 16) (h1 : 5 ≤ op) (h2 : op ≤ 18) (d1 : 0 ≤ d) (d2 : d < 16) :
    Calls Tryz.prog 162 #[.pointer (some ⟨g, 0, none⟩), .int .i64 op, .int .i64 d, .int .i64 a, .int .i64 b] w (MachPost w base g codes (reckS (op - 3) d a b s) (.tuple #[])) := by
  have HC := Lib.hid (ends_any 2 w base g codes s h hr)
  obtain ⟨hg, cv, mv, lv, iv, ov, ps, h⟩ := h
  obtain ⟨dn, rfl⟩ := Int.eq_ofNat_of_zero_le d1
  have hdn : dn < 16 := by omega
  have cd := (h.1.cell (1 + dn)).trans (mach_reg hr hdn)
  have fd := h.1.frozen (1 + dn)
  have H := Lib.hid h
  have Hr := Lib.hid hr
  obtain ⟨n, ok, ht⟩ : ∃ n ok, twoS (op - 3) a b = (n, ok) := ⟨_, _, rfl⟩
  have HT := Lib.hid ht
  have hcall := Two_any (op - 3) a b w (by omega) (by omega)
  rw [ht] at hcall
  unfold TwoPost at hcall
  have HCall := Lib.hid hcall
  have he : op - 5 + 2 = op - 3 := by omega
  clear h hr ht hcall
  cases ok
  · go_enter Tryz.func162, Tryz.ntmps162
    go_wp2_with fail
    refine HCall.out.mono ?_
    rintro e w' ⟨rfl, rfl⟩
    go_wp2_with (go_at_call 185; refine HC.out.mono ?_; rintro e w' ⟨rfl, hm, hb⟩)
    go_end0
    refine ⟨rfl, ?_, hb⟩
    unfold reckS
    rw [HT.out]
    exact hm
  · go_enter Tryz.func162, Tryz.ntmps162
    go_wp2_with fail
    refine HCall.out.mono ?_
    rintro e w' ⟨rfl, rfl⟩
    go_wp2_with fail
    go_end0
    have h2 := mset H.out hg (mach_set_reg dn n Hr.out hdn)
    refine ⟨rfl, ?_, (Below.refl _ _).setCell hg _⟩
    unfold reckS
    rw [HT.out]
    exact ⟨hg, cv, mv, lv, iv, ov, ps, h2.1, h2.2⟩
end Go.Proofs.YtdldochhondifaaGreatDoor
namespace Go.Proofs.YtdldochhondifaaGreatDoor
open Go.RowKit

/-- The machine lies in block g, its newest call in block p. -/
def MachTop (w : World) (base g : Nat) (codes : List (List Mac)) (s : Mch) (c : Fr) (cs : List Fr) (p : Nat) : Prop :=
  base ≤ g ∧ s.calls = c :: cs ∧ ∃ cv mv lv iv ov ps, Blk w g 197 (machCells cv mv lv iv ov s).toArray ∧ MRest w base codes s.mem (c :: cs) s.input s.out cv mv lv iv ov (p :: ps)
theorem MachTop.is {w : World} {base g : Nat} {codes : List (List Mac)} {s : Mch} {c : Fr} {cs : List Fr} {p : Nat} (h : MachTop w base g codes s c cs p) : MachIs w base g codes s := by
  obtain ⟨hg, hs, cv, mv, lv, iv, ov, ps, h1, h2⟩ := h
  exact ⟨hg, cv, mv, lv, iv, ov, _, h1, by rw [hs]; exact h2⟩
theorem MachTop.below {w w' : World} {base g : Nat} {codes : List (List Mac)} {s : Mch} {c : Fr} {cs : List Fr} {p : Nat} (h : MachTop w base g codes s c cs p) (hb : Below w.heap.size w w') : MachTop w' base g codes s c cs p := by
  obtain ⟨hg, hs, cv, mv, lv, iv, ov, ps, h1, h2⟩ := h
  exact ⟨hg, hs, cv, mv, lv, iv, ov, ps, h1.below hb h1.lt, h2.below (by have := h1.lt; omega) hb⟩
theorem MachTop.size {w : World} {base g : Nat} {codes : List (List Mac)} {s : Mch} {c : Fr} {cs : List Fr} {p : Nat} (h : MachTop w base g codes s c cs p) : base ≤ w.heap.size := by
  obtain ⟨hg, _, _, _, _, _, _, _, h1, _⟩ := h
  have := h1.lt
  omega
theorem mk_is {w : World} {base g : Nat} {codes : List (List Mac)} {s' : Mch} {mem : List Int} {calls : List Fr} {input out : List Int} {cv mv lv iv ov : Value} {ps : List Nat} (hg : base ≤ g)
    (h : Blk w g 197 (machCells cv mv lv iv ov s').toArray ∧ MRest w base codes mem calls input out cv mv lv iv ov ps) (e1 : s'.mem = mem) (e2 : s'.calls = calls) (e3 : s'.input = input) (e4 : s'.out = out) : MachIs w base g codes s' := by
  subst e1 e2 e3 e4
  exact ⟨hg, cv, mv, lv, iv, ov, ps, h.1, h.2⟩
theorem MachIs.drew {w : World} {base g : Nat} {codes : List (List Mac)} {s : Mch} (h : MachIs w base g codes s) : MachIs w.drew base g codes s := h.below (below_drew (Below.refl _ _))
theorem MachIs.drewN {w : World} {base g : Nat} {codes : List (List Mac)} {s : Mch} (h : MachIs w base g codes s) (n : Nat) : MachIs (w.drewN n) base g codes s := h.below (below_drewN (Below.refl _ _) n)
theorem pair_below {w w' : World} {base g : Nat} {codes : List (List Mac)} {mem : List Int} {calls : List Fr} {input out : List Int} {cv mv lv iv ov : Value} {ps : List Nat} {ms : Array Value} (hg : base ≤ g)
    (h : Blk w g 197 ms ∧ MRest w base codes mem calls input out cv mv lv iv ov ps) (hb : Below w.heap.size w w') : Blk w' g 197 ms ∧ MRest w' base codes mem calls input out cv mv lv iv ov ps :=
  ⟨h.1.below hb h.1.lt, h.2.below (by have := h.1.lt; omega) hb⟩
theorem pair_drewN {w : World} {base g : Nat} {codes : List (List Mac)} {mem : List Int} {calls : List Fr} {input out : List Int} {cv mv lv iv ov : Value} {ps : List Nat} {ms : Array Value} (hg : base ≤ g)
    (h : Blk w g 197 ms ∧ MRest w base codes mem calls input out cv mv lv iv ov ps) (n : Nat) : Blk (w.drewN n) g 197 ms ∧ MRest (w.drewN n) base codes mem calls input out cv mv lv iv ov ps :=
  pair_below hg h (below_drewN (Below.refl _ _) n)
theorem xor_not (x : Int) : bits .xor .i64 (-1) x = wrap64 (-x - 1) := by
  have h : bits .xor .i64 (-1) x = IntKind.i64.wrap ((BitVec.ofInt 64 (-1) ^^^ BitVec.ofInt 64 x).toNat : Int) := rfl
  rw [h, show BitVec.ofInt 64 (-1) = BitVec.allOnes 64 by decide, BitVec.allOnes_xor, BitVec.toNat_not, IntKind.wrap_i64, wrap64]
  have h1 : ((BitVec.ofInt 64 x).toNat : Int) = x % 18446744073709551616 := by rw [BitVec.toNat_ofInt]; omega
  have h2 := (BitVec.ofInt 64 x).isLt
  omega
def macV (m : Mac) : Value := .agg #[.int .i64 m.op, .int .i64 m.dst, .int .i64 m.a, .int .i64 m.b, .int .i64 m.n]
set_option maxHeartbeats 1000000 in
theorem moves_1 (dst a b n : Int) (w : World) (base g p : Nat) (codes : List (List Mac)) (s : Mch) (c : Fr) (cs : List Fr) (h : MachTop w base g codes s c cs p) (hr : s.regs.length = 16) (d1 : 0 ≤ dst) (d2 : dst < 16) :
    Calls Tryz.prog 165 #[.pointer (some ⟨g, 0, none⟩), macV ⟨1, dst, a, b, n⟩, .pointer (some ⟨p, 0, none⟩)] w (MachPost w base g codes (movesS ⟨1, dst, a, b, n⟩ c cs s) (.tuple #[])) := by
  obtain ⟨dn, rfl⟩ := Int.eq_ofNat_of_zero_le d1
  have hdn : dn < 16 := by omega
  have hA : Below w.heap.size w (w.alloc (.cells #[.int .i64 1, .int .i64 (dn : Int), .int .i64 a, .int .i64 b, .int .i64 n] 39)) := (Below.refl _ _).alloc (Nat.le_refl _) _
  have hk := Blk.new w 39 #[.int .i64 1, .int .i64 (dn : Int), .int .i64 a, .int .i64 b, .int .i64 n]
  have HM := Lib.hid (h.below hA)
  have HZ := Lib.hid h.size
  have HA := Lib.hid hA
  have HK := Lib.hid hk
  have Hr := Lib.hid hr
  clear hA hk h hr
  unfold macV
  simp only
  go_enter Tryz.func165, Tryz.ntmps165
  go_wp2_with fail
  generalize w.alloc (.cells #[.int .i64 1, .int .i64 (dn : Int), .int .i64 a, .int .i64 b, .int .i64 n] 39) = w1 at *
  generalize w.heap.size = gk at *
  have k0 := HK.out.cell 0
  have k1 := HK.out.cell 1
  have k2 := HK.out.cell 2
  have k3 := HK.out.cell 3
  have k4 := HK.out.cell 4
  obtain ⟨hg, hs, cv, mv, lv, iv, ov, ps, h⟩ := HM.out
  have cd := (h.1.cell (1 + dn)).trans (mach_reg Hr.out hdn)
  have fd := h.1.frozen (1 + dn)
  have H := Lib.hid h
  have Hs := Lib.hid hs
  clear h hs
  go_region
  all_goals
    go_wp2_with fail
    go_end0
    exact ⟨rfl, (mk_is hg (mset H.out hg (mach_set_reg dn _ Hr.out hdn)) rfl Hs.out rfl rfl).drew, below_drew ((HA.out.mono HZ.out).setCell hg _)⟩
set_option maxHeartbeats 1000000 in
theorem moves_2 (dst a b n : Int) (w : World) (base g p : Nat) (codes : List (List Mac)) (s : Mch) (c : Fr) (cs : List Fr) (h : MachTop w base g codes s c cs p) (hr : s.regs.length = 16) (d1 : 0 ≤ dst) (d2 : dst < 16) (a1 : 0 ≤ a) (a2 : a < 16) :
    Calls Tryz.prog 165 #[.pointer (some ⟨g, 0, none⟩), macV ⟨2, dst, a, b, n⟩, .pointer (some ⟨p, 0, none⟩)] w (MachPost w base g codes (movesS ⟨2, dst, a, b, n⟩ c cs s) (.tuple #[])) := by
  obtain ⟨dn, rfl⟩ := Int.eq_ofNat_of_zero_le d1
  have hdn : dn < 16 := by omega
  obtain ⟨an, rfl⟩ := Int.eq_ofNat_of_zero_le a1
  have han : an < 16 := by omega
  have hA : Below w.heap.size w (w.alloc (.cells #[.int .i64 2, .int .i64 (dn : Int), .int .i64 (an : Int), .int .i64 b, .int .i64 n] 39)) := (Below.refl _ _).alloc (Nat.le_refl _) _
  have hk := Blk.new w 39 #[.int .i64 2, .int .i64 (dn : Int), .int .i64 (an : Int), .int .i64 b, .int .i64 n]
  have HM := Lib.hid (h.below hA)
  have HZ := Lib.hid h.size
  have HA := Lib.hid hA
  have HK := Lib.hid hk
  have Hr := Lib.hid hr
  clear hA hk h hr
  unfold macV
  simp only
  go_enter Tryz.func165, Tryz.ntmps165
  go_wp2_with fail
  generalize w.alloc (.cells #[.int .i64 2, .int .i64 (dn : Int), .int .i64 (an : Int), .int .i64 b, .int .i64 n] 39) = w1 at *
  generalize w.heap.size = gk at *
  have k0 := HK.out.cell 0
  have k1 := HK.out.cell 1
  have k2 := HK.out.cell 2
  have k3 := HK.out.cell 3
  have k4 := HK.out.cell 4
  obtain ⟨hg, hs, cv, mv, lv, iv, ov, ps, h⟩ := HM.out
  have cd := (h.1.cell (1 + dn)).trans (mach_reg Hr.out hdn)
  have fd := h.1.frozen (1 + dn)
  have ca := (h.1.cell (1 + an)).trans (mach_reg Hr.out han)
  have H := Lib.hid h
  have Hs := Lib.hid hs
  clear h hs
  go_region
  all_goals
    go_wp2_with fail
    go_end0
    exact ⟨rfl, (mk_is hg (mset H.out hg (mach_set_reg dn _ Hr.out hdn)) rfl Hs.out rfl rfl).drew, below_drew ((HA.out.mono HZ.out).setCell hg _)⟩
set_option maxHeartbeats 1000000 in
theorem moves_3 (dst a b n : Int) (w : World) (base g p : Nat) (codes : List (List Mac)) (s : Mch) (c : Fr) (cs : List Fr) (h : MachTop w base g codes s c cs p) (hr : s.regs.length = 16) (d1 : 0 ≤ dst) (d2 : dst < 16) (a1 : 0 ≤ a) (a2 : a < 16) :
    Calls Tryz.prog 165 #[.pointer (some ⟨g, 0, none⟩), macV ⟨3, dst, a, b, n⟩, .pointer (some ⟨p, 0, none⟩)] w (MachPost w base g codes (movesS ⟨3, dst, a, b, n⟩ c cs s) (.tuple #[])) := by
  obtain ⟨dn, rfl⟩ := Int.eq_ofNat_of_zero_le d1
  have hdn : dn < 16 := by omega
  obtain ⟨an, rfl⟩ := Int.eq_ofNat_of_zero_le a1
  have han : an < 16 := by omega
  have hA : Below w.heap.size w (w.alloc (.cells #[.int .i64 3, .int .i64 (dn : Int), .int .i64 (an : Int), .int .i64 b, .int .i64 n] 39)) := (Below.refl _ _).alloc (Nat.le_refl _) _
  have hk := Blk.new w 39 #[.int .i64 3, .int .i64 (dn : Int), .int .i64 (an : Int), .int .i64 b, .int .i64 n]
  have HM := Lib.hid (h.below hA)
  have HZ := Lib.hid h.size
  have HA := Lib.hid hA
  have HK := Lib.hid hk
  have Hr := Lib.hid hr
  clear hA hk h hr
  unfold macV
  simp only
  go_enter Tryz.func165, Tryz.ntmps165
  go_wp2_with fail
  generalize w.alloc (.cells #[.int .i64 3, .int .i64 (dn : Int), .int .i64 (an : Int), .int .i64 b, .int .i64 n] 39) = w1 at *
  generalize w.heap.size = gk at *
  have k0 := HK.out.cell 0
  have k1 := HK.out.cell 1
  have k2 := HK.out.cell 2
  have k3 := HK.out.cell 3
  have k4 := HK.out.cell 4
  obtain ⟨hg, hs, cv, mv, lv, iv, ov, ps, h⟩ := HM.out
  have cd := (h.1.cell (1 + dn)).trans (mach_reg Hr.out hdn)
  have fd := h.1.frozen (1 + dn)
  have ca := (h.1.cell (1 + an)).trans (mach_reg Hr.out han)
  have H := Lib.hid h
  have Hs := Lib.hid hs
  clear h hs
  go_region
  all_goals
    go_wp2_with fail
    go_end0
    exact ⟨rfl, (mk_is hg (mset H.out hg (mach_set_reg dn _ Hr.out hdn)) rfl Hs.out rfl rfl).drew, below_drew ((HA.out.mono HZ.out).setCell hg _)⟩
set_option maxHeartbeats 1000000 in
theorem moves_4 (dst a b n : Int) (w : World) (base g p : Nat) (codes : List (List Mac)) (s : Mch) (c : Fr) (cs : List Fr) (h : MachTop w base g codes s c cs p) (hr : s.regs.length = 16) (d1 : 0 ≤ dst) (d2 : dst < 16) (a1 : 0 ≤ a) (a2 : a < 16) :
    Calls Tryz.prog 165 #[.pointer (some ⟨g, 0, none⟩), macV ⟨4, dst, a, b, n⟩, .pointer (some ⟨p, 0, none⟩)] w (MachPost w base g codes (movesS ⟨4, dst, a, b, n⟩ c cs s) (.tuple #[])) := by
  obtain ⟨dn, rfl⟩ := Int.eq_ofNat_of_zero_le d1
  have hdn : dn < 16 := by omega
  obtain ⟨an, rfl⟩ := Int.eq_ofNat_of_zero_le a1
  have han : an < 16 := by omega
  have hA : Below w.heap.size w (w.alloc (.cells #[.int .i64 4, .int .i64 (dn : Int), .int .i64 (an : Int), .int .i64 b, .int .i64 n] 39)) := (Below.refl _ _).alloc (Nat.le_refl _) _
  have hk := Blk.new w 39 #[.int .i64 4, .int .i64 (dn : Int), .int .i64 (an : Int), .int .i64 b, .int .i64 n]
  have HM := Lib.hid (h.below hA)
  have HZ := Lib.hid h.size
  have HA := Lib.hid hA
  have HK := Lib.hid hk
  have Hr := Lib.hid hr
  clear hA hk h hr
  unfold macV
  simp only
  go_enter Tryz.func165, Tryz.ntmps165
  go_wp2_with fail
  generalize w.alloc (.cells #[.int .i64 4, .int .i64 (dn : Int), .int .i64 (an : Int), .int .i64 b, .int .i64 n] 39) = w1 at *
  generalize w.heap.size = gk at *
  have k0 := HK.out.cell 0
  have k1 := HK.out.cell 1
  have k2 := HK.out.cell 2
  have k3 := HK.out.cell 3
  have k4 := HK.out.cell 4
  obtain ⟨hg, hs, cv, mv, lv, iv, ov, ps, h⟩ := HM.out
  have cd := (h.1.cell (1 + dn)).trans (mach_reg Hr.out hdn)
  have fd := h.1.frozen (1 + dn)
  have ca := (h.1.cell (1 + an)).trans (mach_reg Hr.out han)
  have H := Lib.hid h
  have Hs := Lib.hid hs
  clear h hs
  obtain ⟨x, hx⟩ : ∃ x, s.regs.getD an 0 = x := ⟨_, rfl⟩
  have HX := Lib.hid hx
  rw [hx] at ca
  clear hx
  go_region
  all_goals
    go_wp2_with fail
    go_end0
    refine ⟨rfl, ?_, below_drew ((HA.out.mono HZ.out).setCell hg _)⟩
    have e : movesS ⟨4, (dn : Int), (an : Int), b, n⟩ c cs s = { s with regs := s.regs.set dn (bits .xor .i64 (-1) x) } := by rw [xor_not, ← HX.out]; rfl
    rw [e]
    exact (mk_is hg (mset H.out hg (mach_set_reg dn _ Hr.out hdn)) rfl Hs.out rfl rfl).drew
set_option maxHeartbeats 1000000 in
theorem moves_33 (dst a b n : Int) (w : World) (base g p : Nat) (codes : List (List Mac)) (s : Mch) (c : Fr) (cs : List Fr) (h : MachTop w base g codes s c cs p) (hr : s.regs.length = 16) (d1 : 0 ≤ dst) (d2 : dst < 16) (a1 : 0 ≤ a) (a2 : a < 16) :
    Calls Tryz.prog 165 #[.pointer (some ⟨g, 0, none⟩), macV ⟨33, dst, a, b, n⟩, .pointer (some ⟨p, 0, none⟩)] w (MachPost w base g codes (movesS ⟨33, dst, a, b, n⟩ c cs s) (.tuple #[])) := by
  obtain ⟨dn, rfl⟩ := Int.eq_ofNat_of_zero_le d1
  have hdn : dn < 16 := by omega
  obtain ⟨an, rfl⟩ := Int.eq_ofNat_of_zero_le a1
  have han : an < 16 := by omega
  have hA : Below w.heap.size w (w.alloc (.cells #[.int .i64 33, .int .i64 (dn : Int), .int .i64 (an : Int), .int .i64 b, .int .i64 n] 39)) := (Below.refl _ _).alloc (Nat.le_refl _) _
  have hk := Blk.new w 39 #[.int .i64 33, .int .i64 (dn : Int), .int .i64 (an : Int), .int .i64 b, .int .i64 n]
  have HM := Lib.hid (h.below hA)
  have HZ := Lib.hid h.size
  have HA := Lib.hid hA
  have HK := Lib.hid hk
  have Hr := Lib.hid hr
  clear hA hk h hr
  unfold macV
  simp only
  go_enter Tryz.func165, Tryz.ntmps165
  go_wp2_with fail
  generalize w.alloc (.cells #[.int .i64 33, .int .i64 (dn : Int), .int .i64 (an : Int), .int .i64 b, .int .i64 n] 39) = w1 at *
  generalize w.heap.size = gk at *
  have k0 := HK.out.cell 0
  have k1 := HK.out.cell 1
  have k2 := HK.out.cell 2
  have k3 := HK.out.cell 3
  have k4 := HK.out.cell 4
  obtain ⟨hg, hs, cv, mv, lv, iv, ov, ps, h⟩ := HM.out
  have cd := (h.1.cell (1 + dn)).trans (mach_reg Hr.out hdn)
  have fd := h.1.frozen (1 + dn)
  have ca := (h.1.cell (1 + an)).trans (mach_reg Hr.out han)
  have H := Lib.hid h
  have Hs := Lib.hid hs
  clear h hs
  obtain ⟨x, hx⟩ : ∃ x, s.regs.getD an 0 = x := ⟨_, rfl⟩
  have HX := Lib.hid hx
  rw [hx] at ca
  obtain ⟨q, hq⟩ : ∃ q, wrap64 (x + n) = q := ⟨_, rfl⟩
  have HQ : Hid (wrap64 (s.reg (an : Int) + n) = q) := Lib.hid (by rw [show s.reg (an : Int) = x from hx]; exact hq)
  clear hx
  by_cases hp : 0 ≤ q ∧ q < (s.mem.length : Int)
  · obtain ⟨p1, p2⟩ := hp
    have HP : Hid (0 ≤ q ∧ q < (s.mem.length : Int)) := Lib.hid ⟨p1, p2⟩
    obtain ⟨qn, rfl⟩ := Int.eq_ofNat_of_zero_le p1
    have hqn : qn < s.mem.length := by omega
    obtain ⟨bm, cm, hmv, hcm0, hcm⟩ := row_some H.out.2.hmem (by omega)
    subst hmv
    obtain ⟨c34, f34⟩ := mem_cell H.out.2 hqn
    obtain ⟨y, hy⟩ : ∃ y, s.mem.getD qn 0 = y := ⟨_, rfl⟩
    have HY := Lib.hid hy
    rw [hy] at c34
    have c17 := (H.out.1.cell 17).trans (mach_tail Hr.out 0)
    simp only [List.getElem?_cons_zero] at c17
    have Hqn := Lib.hid hqn
    clear hy
    go_quiet (fail)
    rw [hq]
    go_wp2_with fail
    refine (place_yes _ _ base g codes s (HM.out.is.drewN _) Hr.out p1 p2).mono ?_
    rintro e w' ⟨rfl, rfl⟩
    go_wp2_with fail
    go_region
    all_goals
      go_wp2_with fail
      go_end0
      have e : movesS ⟨33, (dn : Int), (an : Int), b, n⟩ c cs s = { s with regs := s.regs.set dn (s.mem.getD qn 0) } := by unfold movesS loadS; simp only [HQ.out]; rw [if_pos HP.out]; rfl
      refine ⟨rfl, ?_, ?_⟩
      · rw [e]
        rw [HY.out]
        exact (mk_is hg (mset (pair_drewN hg H.out _) hg (mach_set_reg dn y Hr.out hdn)) rfl Hs.out rfl rfl)
      · exact (below_drewN (HA.out.mono HZ.out) _).setCell hg _
  · have HP := Lib.hid hp
    clear hp
    go_quiet (fail)
    rw [hq]
    go_wp2_with fail
    refine (place_no q _ base g codes s (HM.out.is.drewN _) Hr.out HP.out).mono ?_
    rintro e w' ⟨rfl, hm, hb⟩
    have HM2 := Lib.hid hm
    have HB2 := Lib.hid hb
    clear hm hb
    go_wp2_with fail
    go_end0
    refine ⟨rfl, ?_, (below_drewN (HA.out.mono HZ.out) _).trans HB2.out⟩
    have e : movesS ⟨33, (dn : Int), (an : Int), b, n⟩ c cs s = s.ends 3 := by unfold movesS loadS; simp only [HQ.out]; rw [if_neg HP.out]; rfl
    rw [e]
    exact HM2.out
set_option maxHeartbeats 1000000 in
theorem moves_34 (dst a b n : Int) (w : World) (base g p : Nat) (codes : List (List Mac)) (s : Mch) (c : Fr) (cs : List Fr) (h : MachTop w base g codes s c cs p) (hr : s.regs.length = 16) (a1 : 0 ≤ a) (a2 : a < 16) (b1 : 0 ≤ b) (b2 : b < 16) :
    Calls Tryz.prog 165 #[.pointer (some ⟨g, 0, none⟩), macV ⟨34, dst, a, b, n⟩, .pointer (some ⟨p, 0, none⟩)] w (MachPost w base g codes (movesS ⟨34, dst, a, b, n⟩ c cs s) (.tuple #[])) := by
  obtain ⟨an, rfl⟩ := Int.eq_ofNat_of_zero_le a1
  have han : an < 16 := by omega
  obtain ⟨bn, rfl⟩ := Int.eq_ofNat_of_zero_le b1
  have hbn : bn < 16 := by omega
  have hA : Below w.heap.size w (w.alloc (.cells #[.int .i64 34, .int .i64 dst, .int .i64 (an : Int), .int .i64 (bn : Int), .int .i64 n] 39)) := (Below.refl _ _).alloc (Nat.le_refl _) _
  have hk := Blk.new w 39 #[.int .i64 34, .int .i64 dst, .int .i64 (an : Int), .int .i64 (bn : Int), .int .i64 n]
  have HM := Lib.hid (h.below hA)
  have HZ := Lib.hid h.size
  have HA := Lib.hid hA
  have HK := Lib.hid hk
  have Hr := Lib.hid hr
  clear hA hk h hr
  unfold macV
  simp only
  go_enter Tryz.func165, Tryz.ntmps165
  go_wp2_with fail
  generalize w.alloc (.cells #[.int .i64 34, .int .i64 dst, .int .i64 (an : Int), .int .i64 (bn : Int), .int .i64 n] 39) = w1 at *
  generalize w.heap.size = gk at *
  have k0 := HK.out.cell 0
  have k1 := HK.out.cell 1
  have k2 := HK.out.cell 2
  have k3 := HK.out.cell 3
  have k4 := HK.out.cell 4
  obtain ⟨hg, hs, cv, mv, lv, iv, ov, ps, h⟩ := HM.out
  have ca := (h.1.cell (1 + an)).trans (mach_reg Hr.out han)
  have cb := (h.1.cell (1 + bn)).trans (mach_reg Hr.out hbn)
  have H := Lib.hid h
  have Hs := Lib.hid hs
  clear h hs
  obtain ⟨x, hx⟩ : ∃ x, s.regs.getD an 0 = x := ⟨_, rfl⟩
  have HX := Lib.hid hx
  rw [hx] at ca
  obtain ⟨z, hz⟩ : ∃ z, s.regs.getD bn 0 = z := ⟨_, rfl⟩
  have HZ2 := Lib.hid hz
  rw [hz] at cb
  clear hz
  obtain ⟨q, hq⟩ : ∃ q, wrap64 (x + n) = q := ⟨_, rfl⟩
  have HQ : Hid (wrap64 (s.reg (an : Int) + n) = q) := Lib.hid (by rw [show s.reg (an : Int) = x from hx]; exact hq)
  clear hx
  by_cases hp : 0 ≤ q ∧ q < (s.mem.length : Int)
  · obtain ⟨p1, p2⟩ := hp
    have HP : Hid (0 ≤ q ∧ q < (s.mem.length : Int)) := Lib.hid ⟨p1, p2⟩
    obtain ⟨qn, rfl⟩ := Int.eq_ofNat_of_zero_le p1
    have hqn : qn < s.mem.length := by omega
    obtain ⟨bm, cm, hmv, hcm0, hcm⟩ := row_some H.out.2.hmem (by omega)
    subst hmv
    obtain ⟨c34, f34⟩ := mem_cell H.out.2 hqn
    obtain ⟨y, hy⟩ : ∃ y, s.mem.getD qn 0 = y := ⟨_, rfl⟩
    have HY := Lib.hid hy
    rw [hy] at c34
    have c17 := (H.out.1.cell 17).trans (mach_tail Hr.out 0)
    simp only [List.getElem?_cons_zero] at c17
    have Hqn := Lib.hid hqn
    clear hy
    go_quiet (fail)
    rw [hq]
    go_wp2_with fail
    refine (place_yes _ _ base g codes s (HM.out.is.drewN _) Hr.out p1 p2).mono ?_
    rintro e w' ⟨rfl, rfl⟩
    go_wp2_with fail
    go_region
    all_goals
      go_wp2_with fail
      go_end0
      have e : movesS ⟨34, dst, (an : Int), (bn : Int), n⟩ c cs s = { s with mem := s.mem.set qn (s.regs.getD bn 0) } := by unfold movesS storeS; simp only [HQ.out]; rw [if_pos HP.out]; rfl
      refine ⟨rfl, ?_, ?_⟩
      · rw [e]
        rw [HZ2.out]
        have h2 := MRest.setmem (k := qn) (pair_drewN hg H.out (nq + 1)).2 (pair_drewN hg H.out (nq + 1)).1 z
        exact mk_is hg h2 rfl Hs.out rfl rfl
      · exact (below_drewN (HA.out.mono HZ.out) _).setCell (row_blk H.out.2.hmem).1 _
  · have HP := Lib.hid hp
    clear hp
    go_quiet (fail)
    rw [hq]
    go_wp2_with fail
    refine (place_no q _ base g codes s (HM.out.is.drewN _) Hr.out HP.out).mono ?_
    rintro e w' ⟨rfl, hm, hb⟩
    have HM2 := Lib.hid hm
    have HB2 := Lib.hid hb
    clear hm hb
    go_wp2_with fail
    go_end0
    refine ⟨rfl, ?_, (below_drewN (HA.out.mono HZ.out) _).trans HB2.out⟩
    have e : movesS ⟨34, dst, (an : Int), (bn : Int), n⟩ c cs s = s.ends 3 := by unfold movesS storeS; simp only [HQ.out]; rw [if_neg HP.out]; rfl
    rw [e]
    exact HM2.out
set_option maxHeartbeats 1000000 in
theorem moves_35 (dst a b n : Int) (w : World) (base g p : Nat) (codes : List (List Mac)) (s : Mch) (c : Fr) (cs : List Fr) (h : MachTop w base g codes s c cs p) (hr : s.regs.length = 16) (d1 : 0 ≤ dst) (d2 : dst < 16) (n1 : 0 ≤ n) (n2 : n < 120) (hw : c.ws.length = 120) :
    Calls Tryz.prog 165 #[.pointer (some ⟨g, 0, none⟩), macV ⟨35, dst, a, b, n⟩, .pointer (some ⟨p, 0, none⟩)] w (MachPost w base g codes (movesS ⟨35, dst, a, b, n⟩ c cs s) (.tuple #[])) := by
  obtain ⟨dn, rfl⟩ := Int.eq_ofNat_of_zero_le d1
  have hdn : dn < 16 := by omega
  obtain ⟨nn, rfl⟩ := Int.eq_ofNat_of_zero_le n1
  have hnn : nn < 120 := by omega
  have hA : Below w.heap.size w (w.alloc (.cells #[.int .i64 35, .int .i64 (dn : Int), .int .i64 a, .int .i64 b, .int .i64 (nn : Int)] 39)) := (Below.refl _ _).alloc (Nat.le_refl _) _
  have hk := Blk.new w 39 #[.int .i64 35, .int .i64 (dn : Int), .int .i64 a, .int .i64 b, .int .i64 (nn : Int)]
  have HM := Lib.hid (h.below hA)
  have HZ := Lib.hid h.size
  have HA := Lib.hid hA
  have HK := Lib.hid hk
  have Hr := Lib.hid hr
  clear hA hk h hr
  unfold macV
  simp only
  go_enter Tryz.func165, Tryz.ntmps165
  go_wp2_with fail
  generalize w.alloc (.cells #[.int .i64 35, .int .i64 (dn : Int), .int .i64 a, .int .i64 b, .int .i64 (nn : Int)] 39) = w1 at *
  generalize w.heap.size = gk at *
  have k0 := HK.out.cell 0
  have k1 := HK.out.cell 1
  have k2 := HK.out.cell 2
  have k3 := HK.out.cell 3
  have k4 := HK.out.cell 4
  obtain ⟨hg, hs, cv, mv, lv, iv, ov, ps, h⟩ := HM.out
  have cd := (h.1.cell (1 + dn)).trans (mach_reg Hr.out hdn)
  have fd := h.1.frozen (1 + dn)
  have cn := (h.2.top.2.cell (2 + nn)).trans (fr_ws c (by omega))
  have H := Lib.hid h
  have Hs := Lib.hid hs
  clear h hs
  obtain ⟨y, hy⟩ : ∃ y, c.ws.getD nn 0 = y := ⟨_, rfl⟩
  have HY := Lib.hid hy
  rw [hy] at cn
  clear hy
  go_region
  all_goals
    go_wp2_with fail
    go_end0
    refine ⟨rfl, ?_, below_drew ((HA.out.mono HZ.out).setCell hg _)⟩
    have e : movesS ⟨35, (dn : Int), a, b, (nn : Int)⟩ c cs s = { s with regs := s.regs.set dn y } := by rw [← HY.out]; rfl
    rw [e]
    exact (mk_is hg (mset H.out hg (mach_set_reg dn y Hr.out hdn)) rfl Hs.out rfl rfl).drew
set_option maxHeartbeats 1000000 in
theorem moves_36 (dst a b n : Int) (w : World) (base g p : Nat) (codes : List (List Mac)) (s : Mch) (c : Fr) (cs : List Fr) (h : MachTop w base g codes s c cs p) (hr : s.regs.length = 16) (a1 : 0 ≤ a) (a2 : a < 16) (n1 : 0 ≤ n) (n2 : n < 120) (hw : c.ws.length = 120) :
    Calls Tryz.prog 165 #[.pointer (some ⟨g, 0, none⟩), macV ⟨36, dst, a, b, n⟩, .pointer (some ⟨p, 0, none⟩)] w (MachPost w base g codes (movesS ⟨36, dst, a, b, n⟩ c cs s) (.tuple #[])) := by
  obtain ⟨an, rfl⟩ := Int.eq_ofNat_of_zero_le a1
  have han : an < 16 := by omega
  obtain ⟨nn, rfl⟩ := Int.eq_ofNat_of_zero_le n1
  have hnn : nn < 120 := by omega
  have hA : Below w.heap.size w (w.alloc (.cells #[.int .i64 36, .int .i64 dst, .int .i64 (an : Int), .int .i64 b, .int .i64 (nn : Int)] 39)) := (Below.refl _ _).alloc (Nat.le_refl _) _
  have hk := Blk.new w 39 #[.int .i64 36, .int .i64 dst, .int .i64 (an : Int), .int .i64 b, .int .i64 (nn : Int)]
  have HM := Lib.hid (h.below hA)
  have HZ := Lib.hid h.size
  have HA := Lib.hid hA
  have HK := Lib.hid hk
  have Hr := Lib.hid hr
  clear hA hk h hr
  unfold macV
  simp only
  go_enter Tryz.func165, Tryz.ntmps165
  go_wp2_with fail
  generalize w.alloc (.cells #[.int .i64 36, .int .i64 dst, .int .i64 (an : Int), .int .i64 b, .int .i64 (nn : Int)] 39) = w1 at *
  generalize w.heap.size = gk at *
  have k0 := HK.out.cell 0
  have k1 := HK.out.cell 1
  have k2 := HK.out.cell 2
  have k3 := HK.out.cell 3
  have k4 := HK.out.cell 4
  obtain ⟨hg, hs, cv, mv, lv, iv, ov, ps, h⟩ := HM.out
  have ca := (h.1.cell (1 + an)).trans (mach_reg Hr.out han)
  have cn := (h.2.top.2.cell (2 + nn)).trans (fr_ws c (by omega))
  have fn := h.2.top.2.frozen (2 + nn)
  have H := Lib.hid h
  have Hs := Lib.hid hs
  clear h hs
  obtain ⟨y, hy⟩ : ∃ y, s.regs.getD an 0 = y := ⟨_, rfl⟩
  have HY := Lib.hid hy
  rw [hy] at ca
  clear hy
  go_region
  all_goals
    go_wp2_with fail
    go_end0
    have h2 := MRest.setp H.out.2 H.out.1 _ (fr_set_ws c nn y)
    refine ⟨rfl, ?_, below_drew ((HA.out.mono HZ.out).setCell H.out.2.top.1 _)⟩
    have e : movesS ⟨36, dst, (an : Int), b, (nn : Int)⟩ c cs s = { s with calls := { c with ws := c.ws.set nn y } :: cs } := by rw [← HY.out]; rfl
    rw [e]
    refine MachIs.drew ?_
    exact mk_is hg h2 rfl rfl rfl rfl
/-- moves, whatever the Op. -/
theorem moves_any (m : Mac) (len rts : Nat) (w : World) (base g p : Nat) (codes : List (List Mac)) (s : Mch) (c : Fr) (cs : List Fr) (h : MachTop w base g codes s c cs p) (hr : s.regs.length = 16) (hw : c.ws.length = 120) (hm : GoodM m len rts) (h1 : ¬ (5 ≤ m.op ∧ m.op ≤ 32)) (h2 : m.op < 37) :
    Calls Tryz.prog 165 #[.pointer (some ⟨g, 0, none⟩), macV m, .pointer (some ⟨p, 0, none⟩)] w (MachPost w base g codes (movesS m c cs s) (.tuple #[])) := by
  obtain ⟨op, dst, a, b, n⟩ := m
  obtain ⟨o1, o2, d1, d2, a1, a2, b1, b2, hn, _, _⟩ := hm
  simp only at o1 o2 d1 d2 a1 a2 b1 b2 hn h1 h2
  obtain rfl | rfl | rfl | rfl | rfl | rfl | rfl | rfl : op = 1 ∨ op = 2 ∨ op = 3 ∨ op = 4 ∨ op = 33 ∨ op = 34 ∨ op = 35 ∨ op = 36 := by omega
  · exact moves_1 dst a b n w base g p codes s c cs h hr d1 d2
  · exact moves_2 dst a b n w base g p codes s c cs h hr d1 d2 a1 a2
  · exact moves_3 dst a b n w base g p codes s c cs h hr d1 d2 a1 a2
  · exact moves_4 dst a b n w base g p codes s c cs h hr d1 d2 a1 a2
  · exact moves_33 dst a b n w base g p codes s c cs h hr d1 d2 a1 a2
  · exact moves_34 dst a b n w base g p codes s c cs h hr a1 a2 b1 b2
  · have := hn (by omega)
    exact moves_35 dst a b n w base g p codes s c cs h hr d1 d2 this.1 this.2 hw
  · have := hn (by omega)
    exact moves_36 dst a b n w base g p codes s c cs h hr a1 a2 this.1 this.2 hw
end Go.Proofs.YtdldochhondifaaGreatDoor
