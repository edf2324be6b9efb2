/-
  Several texts in one (RwA RwB RwC): what each proves stands at its theorems.
  Conditions: as the theorems say.
-/
import Derived.Test.YtkiaffaieniebaaDoorRuY
import Derived.Test.YtkiaffaieniebaaDoorLiD
import Derived.Test.YtkiaffaieniebaaDoorRuS
import Derived.Test.YtkiaffaieniebaaDoorRuU
import Derived.BigQuiet
namespace Go.Proofs.YtkiaffaieniebaaDoor
open Go.RowKit

/-- An instruction behind whose target k one more has been put. -/
def putM (k : Nat) (m : Mac) : Mac := if hasS (fldS m.op) 116 = true ∧ (k : Int) < m.n then { m with n := m.n + 1 } else m
def putL (l : List Mac) (k : Nat) (x : Mac) : List Mac := (l.take k).map (putM k) ++ x :: (l.drop k).map (putM k)
theorem putL_len (l : List Mac) {k : Nat} (x : Mac) (hk : k ≤ l.length) : (putL l k x).length = l.length + 1 := by
  simp only [putL, List.length_append, List.length_map, List.length_take, List.length_cons, List.length_drop]
  omega
theorem putL_lo {l : List Mac} {k j : Nat} (x : Mac) (hj : j < k) (hk : k ≤ l.length) : (putL l k x)[j]? = l[j]?.map (putM k) := by
  unfold putL
  rw [List.getElem?_append_left (by simp; omega), List.getElem?_map, List.getElem?_take, if_pos hj]
theorem putL_at {l : List Mac} {k : Nat} (x : Mac) (hk : k ≤ l.length) : (putL l k x)[k]? = some x := by
  unfold putL
  rw [List.getElem?_append_right (by simp; omega)]
  simp [Nat.min_eq_left hk]
theorem putL_hi {l : List Mac} {k j : Nat} (x : Mac) (hj : k ≤ j) (hk : k ≤ l.length) : (putL l k x)[j + 1]? = l[j]?.map (putM k) := by
  unfold putL
  rw [List.getElem?_append_right (by simp; omega)]
  simp only [List.length_map, List.length_take, Nat.min_eq_left hk]
  rw [show j + 1 - k = j - k + 1 by omega, List.getElem?_cons_succ, List.getElem?_map, List.getElem?_drop]
  congr 2
  omega
theorem putM_op (k : Nat) (m : Mac) : (putM k m).op = m.op ∧ (putM k m).dst = m.dst ∧ (putM k m).a = m.a ∧ (putM k m).b = m.b := by
  unfold putM
  split <;> exact ⟨rfl, rfl, rfl, rfl⟩
/-- Which registers an instruction names, by the branch that does it. -/
structure ShTab (op : Int) : Prop where
  q1 : 5 ≤ op → op ≤ 18 → shD op = true ∧ shA op = true ∧ shB op = true
  q2 : 19 ≤ op → op ≤ 32 → shD op = true ∧ shA op = true
  q3 : 38 ≤ op → op ≤ 43 → shA op = true
  q4 : 40 ≤ op → op ≤ 43 → shB op = true
  q5 : op = 1 → shD op = true
  q6 : 2 ≤ op → op ≤ 4 → shD op = true ∧ shA op = true
  q7 : op = 33 → shD op = true ∧ shA op = true
  q8 : op = 34 → shA op = true ∧ shB op = true
  q9 : op = 35 → shD op = true
  q10 : op = 36 → shA op = true
  q11 : op = 46 → shD op = true
  q12 : op = 47 → shA op = true
  q13 : hasS (fldS op) 116 = true ↔ 37 ≤ op ∧ op ≤ 43
  q14 : op = 34 ∨ op = 36 ∨ 37 ≤ op ∧ op ≤ 43 ∨ op = 45 ∨ op = 47 → shD op = false
theorem tab_of {p : Int → Prop} (h : ∀ k : Fin 48, 1 ≤ k.val → p (k.val : Int)) {op : Int} (h1 : 1 ≤ op) (h2 : op ≤ 47) : p op := by
  have := h ⟨op.toNat, by omega⟩ (by show 1 ≤ op.toNat; omega)
  simpa only [show ((op.toNat : Nat) : Int) = op from by omega] using this
theorem sh_tab (op : Int) (h1 : 1 ≤ op) (h2 : op ≤ 47) : ShTab op where
  q1 := tab_of (p := fun op => 5 ≤ op → op ≤ 18 → shD op = true ∧ shA op = true ∧ shB op = true) (by decide +kernel) h1 h2
  q2 := tab_of (p := fun op => 19 ≤ op → op ≤ 32 → shD op = true ∧ shA op = true) (by decide +kernel) h1 h2
  q3 := tab_of (p := fun op => 38 ≤ op → op ≤ 43 → shA op = true) (by decide +kernel) h1 h2
  q4 := tab_of (p := fun op => 40 ≤ op → op ≤ 43 → shB op = true) (by decide +kernel) h1 h2
  q5 := tab_of (p := fun op => op = 1 → shD op = true) (by decide +kernel) h1 h2
  q6 := tab_of (p := fun op => 2 ≤ op → op ≤ 4 → shD op = true ∧ shA op = true) (by decide +kernel) h1 h2
  q7 := tab_of (p := fun op => op = 33 → shD op = true ∧ shA op = true) (by decide +kernel) h1 h2
  q8 := tab_of (p := fun op => op = 34 → shA op = true ∧ shB op = true) (by decide +kernel) h1 h2
  q9 := tab_of (p := fun op => op = 35 → shD op = true) (by decide +kernel) h1 h2
  q10 := tab_of (p := fun op => op = 36 → shA op = true) (by decide +kernel) h1 h2
  q11 := tab_of (p := fun op => op = 46 → shD op = true) (by decide +kernel) h1 h2
  q12 := tab_of (p := fun op => op = 47 → shA op = true) (by decide +kernel) h1 h2
  q13 := tab_of (p := fun op => hasS (fldS op) 116 = true ↔ 37 ≤ op ∧ op ≤ 43) (by decide +kernel) h1 h2
  q14 := tab_of (p := fun op => op = 34 ∨ op = 36 ∨ 37 ≤ op ∧ op ≤ 43 ∨ op = 45 ∨ op = 47 → shD op = false) (by decide +kernel) h1 h2
/-- Two machines that agree but for registers outside P. -/
structure Agree (P : Nat → Bool) (s t : Mch) : Prop where
  r1 : s.regs.length = 16
  r2 : t.regs.length = 16
  regs : ∀ r, r < 16 → P r = true → t.regs.getD r 0 = s.regs.getD r 0
  mem : t.mem = s.mem
  input : t.input = s.input
  out : t.out = s.out
  state : t.state = s.state
  value : t.value = s.value
  over : t.over = s.over
/-- What an instruction comes to in both. -/
structure Res (i j : Mac) (c c' : Fr) (P : Nat → Bool) (s t : Mch) : Prop where
  out : t.out = s.out
  state : t.state = s.state
  value : t.value = s.value
  over : t.over = s.over
  go : s.over = false → Agree (fun r => wrS i r || P r) s t ∧ ∃ d d', s.calls = [d] ∧ t.calls = [d'] ∧ d.r = c.r ∧ d'.r = c'.r ∧ d'.ws = d.ws ∧
    ((d.pc = c.pc ∧ d'.pc = c'.pc ∧ i.op ≠ 37 ∧ i.op ≠ 45) ∨ (37 ≤ i.op ∧ i.op ≤ 43 ∧ d.pc = i.n.toNat ∧ d'.pc = j.n.toNat))
section
variable {P : Nat → Bool} {s t : Mch} {i j : Mac} {c c' : Fr}
theorem getD_set {l : List Int} {d r : Nat} {v : Int} (hd : d < l.length) : (l.set d v).getD r 0 = if r = d then v else l.getD r 0 := by
  rw [List.getD_eq_getElem?_getD, List.getElem?_set, List.getD_eq_getElem?_getD]
  by_cases e : d = r
  · subst e; rw [if_pos rfl, if_pos hd, if_pos rfl]; rfl
  · rw [if_neg e, if_neg (Ne.symm e)]
theorem Agree.more {Q : Nat → Bool} (h : Agree P s t) (hq : ∀ r, r < 16 → Q r = true → P r = true) : Agree Q s t := ⟨h.r1, h.r2, fun r h1 h2 => h.regs r h1 (hq r h1 h2), h.mem, h.input, h.out, h.state, h.value, h.over⟩
theorem Agree.set (h : Agree P s t) {d v : Int} (h0 : 0 ≤ d) (h1 : d < 16) : Agree (fun r => decide (d = (r : Int)) || P r) (s.set d v) (t.set d v) := by
  refine ⟨by simp [Mch.set, h.r1], by simp [Mch.set, h.r2], fun r hr hp => ?_, h.mem, h.input, h.out, h.state, h.value, h.over⟩
  show (t.regs.set d.toNat v).getD r 0 = (s.regs.set d.toNat v).getD r 0
  rw [getD_set (by rw [h.r2]; omega), getD_set (by rw [h.r1]; omega)]
  by_cases e : r = d.toNat
  · rw [if_pos e, if_pos e]
  · rw [if_neg e, if_neg e]
    refine h.regs r hr ?_
    simp only [Bool.or_eq_true, decide_eq_true_eq] at hp
    rcases hp with hp | hp
    · omega
    · exact hp
theorem Agree.reg (h : Agree P s t) {a : Int} (h0 : 0 ≤ a) (h1 : a < 16) (hp : P a.toNat = true) : t.reg a = s.reg a := h.regs a.toNat (by omega) hp
theorem wr_dst (h : shD i.op = true) (h44 : i.op ≠ 44) (r : Nat) (hr : decide (i.dst = (r : Int)) = true ∨ P r = true) : (wrS i r || P r) = true := by
  unfold wrS
  rw [if_neg h44, h]
  simpa using hr
theorem res_set (ha : Agree P s t) (hs : s.calls = [c]) (ht : t.calls = [c']) (hws : c'.ws = c.ws) (h0 : 0 ≤ i.dst) (h1 : i.dst < 16) (_hd : shD i.op = true) (h44 : i.op ≠ 44) (ho : i.op ≠ 37 ∧ i.op ≠ 45) (v : Int) : Res i j c c' P (s.set i.dst v) (t.set i.dst v) :=
  ⟨ha.out, ha.state, ha.value, ha.over, fun _ => ⟨⟨(ha.set h0 h1).r1, (ha.set h0 h1).r2, fun r hr hp => by
    by_cases e : i.dst = (r : Int)
    · exact (ha.set h0 h1).regs r hr (by simp [e])
    · refine (ha.set h0 h1).regs r hr ?_
      unfold wrS at hp
      rw [if_neg h44] at hp
      simpa [e] using hp, ha.mem, ha.input, ha.out, ha.state, ha.value, ha.over⟩, c, c', hs, ht, rfl, rfl, hws, .inl ⟨rfl, rfl, ho⟩⟩⟩
theorem res_ends (ha : Agree P s t) (st : Int) : Res i j c c' P (s.ends st) (t.ends st) := ⟨ha.out, rfl, ha.value, rfl, fun h => by cases h⟩
theorem res_keep {s1 t1 : Mch} (ha : Agree P s1 t1) (hs : s1.calls = [c]) (ht : t1.calls = [c']) (hws : c'.ws = c.ws) (hw : ∀ r, wrS i r = false) (ho : i.op ≠ 37 ∧ i.op ≠ 45) : Res i j c c' P s1 t1 :=
  ⟨ha.out, ha.state, ha.value, ha.over, fun _ => ⟨ha.more fun r _ h => by simpa [hw r] using h, c, c', hs, ht, rfl, rfl, hws, .inl ⟨rfl, rfl, ho⟩⟩⟩
set_option maxHeartbeats 1000000 in
theorem do_agree {len rts : Nat} (hi : GoodM i len rts) (h44 : i.op ≠ 44) (hj : j.op = i.op ∧ j.dst = i.dst ∧ j.a = i.a ∧ j.b = i.b) (hjn : ¬ (37 ≤ i.op ∧ i.op ≤ 43) → j.n = i.n) (ha : Agree P s t) (hs : s.calls = [c]) (ht : t.calls = [c']) (hws : c'.ws = c.ws)
    (hread : ∀ r, r < 16 → rdS i r = true → P r = true) : Res i j c c' P (doS i c [] s) (doS j c' [] t) := by
  obtain ⟨e1, e2, e3, e4⟩ := hj
  have T := sh_tab i.op hi.op1 hi.op2
  have hA : i.op ≠ 45 → shA i.op = true → t.reg i.a = s.reg i.a := fun h45 h => ha.reg hi.a1 hi.a2 (hread _ (by have := hi.a2; have := hi.a1; omega) (by
    unfold rdS
    rw [if_neg h44, if_neg h45, h]
    have := hi.a1
    simp
    left; omega))
  have hB : i.op ≠ 45 → shB i.op = true → t.reg i.b = s.reg i.b := fun h45 h => ha.reg hi.b1 hi.b2 (hread _ (by have := hi.b2; have := hi.b1; omega) (by
    unfold rdS
    rw [if_neg h44, if_neg h45, h]
    have := hi.b1
    simp
    right; omega))
  have hN : shD i.op = false → ∀ r, wrS i r = false := fun h r => by
    unfold wrS
    rw [if_neg h44, h]
    rfl
  unfold doS
  rw [e1, e2, e3, e4]
  by_cases h1 : 5 ≤ i.op ∧ i.op ≤ 18
  · obtain ⟨d, a, b⟩ := T.q1 h1.1 h1.2
    rw [if_pos h1, if_pos h1, hA (by omega) a, hB (by omega) b]
    unfold reckS
    split
    · exact res_set ha hs ht hws hi.d1 hi.d2 d h44 (by omega) _
    · exact res_ends ha _
  rw [if_neg h1, if_neg h1]
  by_cases h2 : 19 ≤ i.op ∧ i.op ≤ 32
  · obtain ⟨d, a⟩ := T.q2 h2.1 h2.2
    rw [if_pos h2, if_pos h2, hA (by omega) a, hjn (by omega)]
    unfold reckS
    split
    · exact res_set ha hs ht hws hi.d1 hi.d2 d h44 (by omega) _
    · exact res_ends ha _
  rw [if_neg h2, if_neg h2]
  by_cases h3 : 37 ≤ i.op ∧ i.op ≤ 43
  · rw [if_pos h3, if_pos h3]
    have hg : goesS i.op (t.reg i.a) (t.reg i.b) = goesS i.op (s.reg i.a) (s.reg i.b) := by
      by_cases h37 : i.op = 37
      · rw [h37]; rfl
      rw [hA (by omega) (T.q3 (by omega) (by omega))]
      by_cases h40 : 40 ≤ i.op
      · rw [hB (by omega) (T.q4 h40 (by omega))]
      · unfold goesS
        split
        · rfl
        split
        · rfl
        rw [if_neg (by omega), if_neg (by omega), if_neg (by omega), if_neg (by omega), if_neg (by omega), if_neg (by omega), if_neg (by omega), if_neg (by omega)]
    rw [hg]
    have hw := hN (T.q14 (by omega))
    cases hgo : goesS i.op (s.reg i.a) (s.reg i.b)
    · rw [if_neg (by simp), if_neg (by simp)]
      refine res_keep ha hs ht hws hw ⟨fun h => ?_, by omega⟩
      rw [h] at hgo
      cases hgo
    · rw [if_pos rfl, if_pos rfl]
      refine ⟨ha.out, ha.state, ha.value, ha.over, fun _ => ⟨?_, { c with pc := i.n.toNat }, { c' with pc := j.n.toNat }, rfl, rfl, rfl, rfl, hws, .inr ⟨h3.1, h3.2, rfl, rfl⟩⟩⟩
      have := ha.more (Q := fun r => wrS i r || P r) fun r _ h => by simpa [hw r] using h
      exact ⟨this.r1, this.r2, this.regs, this.mem, this.input, this.out, this.state, this.value, this.over⟩
  rw [if_neg h3, if_neg h3]
  by_cases h4 : 44 ≤ i.op
  · rw [if_pos h4, if_pos h4]
    unfold speaksS
    rw [e1, if_neg h44, if_neg h44, e2, e3]
    by_cases h45 : i.op = 45
    · rw [if_pos h45, if_pos h45]
      unfold retS
      rw [if_pos List.length_nil, if_pos List.length_nil]
      have h0 : t.reg 0 = s.reg 0 := ha.reg (by omega) (by omega) (hread _ (by decide) (by unfold rdS; rw [if_neg h44, if_pos h45]; rfl))
      exact ⟨ha.out, rfl, h0, rfl, fun h => by cases h⟩
    rw [if_neg h45, if_neg h45]
    by_cases h46 : i.op = 46
    · rw [if_pos h46, if_pos h46]
      unfold readM
      rw [ha.input]
      split
      · exact res_set ha hs ht hws hi.d1 hi.d2 (T.q11 h46) h44 (by omega) _
      · have ha' : ∀ l, Agree P { s with input := l } { t with input := l } := fun l => ⟨ha.r1, ha.r2, ha.regs, ha.mem, rfl, ha.out, ha.state, ha.value, ha.over⟩
        rename_i x l' _
        exact res_set (ha' l') hs ht hws hi.d1 hi.d2 (T.q11 h46) h44 (by omega) x
    · rw [if_neg h46, if_neg h46]
      have h47 : i.op = 47 := by have := hi.op2; omega
      have hw := hN (T.q14 (by omega))
      unfold printS
      rw [ha.out, hA h45 (T.q12 h47)]
      split
      · exact res_ends ha _
      · exact res_keep ⟨ha.r1, ha.r2, ha.regs, ha.mem, ha.input, rfl, ha.state, ha.value, ha.over⟩ hs ht hws hw (by omega)
  rw [if_neg h4, if_neg h4]
  unfold movesS
  rw [e1, e2, e3, e4, hjn h3]
  by_cases g1 : i.op = 1
  · rw [if_pos g1, if_pos g1]
    exact res_set ha hs ht hws hi.d1 hi.d2 (T.q5 g1) h44 (by omega) _
  rw [if_neg g1, if_neg g1]
  by_cases g2 : i.op = 2
  · rw [if_pos g2, if_pos g2, hA (by omega) (T.q6 (by omega) (by omega)).2]
    exact res_set ha hs ht hws hi.d1 hi.d2 (T.q6 (by omega) (by omega)).1 h44 (by omega) _
  rw [if_neg g2, if_neg g2]
  by_cases g3 : i.op = 3
  · rw [if_pos g3, if_pos g3, hA (by omega) (T.q6 (by omega) (by omega)).2]
    exact res_set ha hs ht hws hi.d1 hi.d2 (T.q6 (by omega) (by omega)).1 h44 (by omega) _
  rw [if_neg g3, if_neg g3]
  by_cases g4 : i.op = 4
  · rw [if_pos g4, if_pos g4, hA (by omega) (T.q6 (by omega) (by omega)).2]
    exact res_set ha hs ht hws hi.d1 hi.d2 (T.q6 (by omega) (by omega)).1 h44 (by omega) _
  rw [if_neg g4, if_neg g4]
  by_cases g5 : i.op = 33
  · rw [if_pos g5, if_pos g5, hA (by omega) (T.q7 g5).2]
    unfold loadS
    rw [ha.mem]
    split
    · exact res_set ha hs ht hws hi.d1 hi.d2 (T.q7 g5).1 h44 (by omega) _
    · exact res_ends ha _
  rw [if_neg g5, if_neg g5]
  by_cases g6 : i.op = 34
  · rw [if_pos g6, if_pos g6, hA (by omega) (T.q8 g6).1, hB (by omega) (T.q8 g6).2]
    have hw := hN (T.q14 (by omega))
    unfold storeS
    rw [ha.mem]
    split
    · exact res_keep ⟨ha.r1, ha.r2, ha.regs, rfl, ha.input, ha.out, ha.state, ha.value, ha.over⟩ hs ht hws hw (by omega)
    · exact res_ends ha _
  rw [if_neg g6, if_neg g6]
  by_cases g7 : i.op = 35
  · rw [if_pos g7, if_pos g7, hws]
    exact res_set ha hs ht hws hi.d1 hi.d2 (T.q9 g7) h44 (by omega) _
  rw [if_neg g7, if_neg g7]
  have g8 : i.op = 36 := by have := hi.op1; omega
  have hw := hN (T.q14 (by omega))
  rw [hA (by omega) (T.q10 g8), hws]
  have := ha.more (Q := fun r => wrS i r || P r) fun r _ h => by simpa [hw r] using h
  exact ⟨ha.out, ha.state, ha.value, ha.over, fun _ => ⟨⟨this.r1, this.r2, this.regs, this.mem, this.input, this.out, this.state, this.value, this.over⟩, _, _, rfl, rfl, rfl, rfl, rfl, .inl ⟨rfl, rfl, by omega, by omega⟩⟩⟩
end
/-- Where control stands behind the put instruction. -/
def shP (k pc : Nat) : Nat := if pc ≤ k then pc else pc + 1
/-- The two runs. -/
def Sim (l : List Mac) (k : Nat) (s t : Mch) : Prop := t.out = s.out ∧ t.state = s.state ∧ t.value = s.value ∧ t.over = s.over ∧
  (s.over = false → ∃ pc ws, pc < l.length ∧ s.calls = [⟨0, pc, ws⟩] ∧ t.calls = [⟨0, shP k pc, ws⟩] ∧ Agree (fun r => liveB l r pc) s t)
section
variable {l : List Mac} {k : Nat} {reg n : Int}
/-- One instruction of both. -/
theorem sim_do (hl : GoodL l 1) (h44 : ∀ m ∈ l, m.op ≠ 44) (hk : k < l.length) {s t : Mch} {pc q : Nat} {ws : List Int} (hpc : pc < l.length) (hs : s.calls = [⟨0, pc, ws⟩]) (ht : t.calls = [⟨0, q, ws⟩])
    (hq : q = if pc < k then pc else pc + 1) (ha : Agree (fun r => liveB l r pc) s t) (x : Mac) : Sim l k (stepS [l] s) (stepS [putL l k x] t) := by
  have hg := hl.all pc _ (List.getElem?_eq_getElem hpc)
  have hm : l[pc]? = some l[pc] := List.getElem?_eq_getElem hpc
  have hmem := h44 _ (List.getElem_mem hpc)
  generalize l[pc] = m at hg hm hmem
  have e1 : macAt [l] 0 pc = m := by
    unfold macAt
    show l.getD pc _ = m
    rw [List.getD_eq_getElem?_getD, hm]
    rfl
  have e2 : macAt [putL l k x] 0 q = putM k m := by
    unfold macAt
    show (putL l k x).getD q _ = _
    rw [List.getD_eq_getElem?_getD, hq]
    split
    · rename_i h; rw [putL_lo x h (by omega), hm]; rfl
    · rename_i h; rw [putL_hi x (by omega) (by omega), hm]; rfl
  have q13 := (sh_tab m.op hg.op1 hg.op2).q13
  have hstep : ∀ r, r < 16 → rdS m r = true → liveB l r pc = true := fun r hr h => by
    rw [live_step l r pc hpc]
    unfold stepB
    rw [hm]
    simp only [h, Bool.true_or]
  have hR := do_agree (j := putM k m) (P := fun r => liveB l r pc) (s := s.begun ⟨0, pc, ws⟩ []) (t := t.begun ⟨0, q, ws⟩ []) (c := Fr.next ⟨0, pc, ws⟩) (c' := Fr.next ⟨0, q, ws⟩) hg hmem (putM_op k m) (fun h => by
    unfold putM
    rw [if_neg (fun h2 => h (q13.1 h2.1))]) ⟨ha.r1, ha.r2, ha.regs, ha.mem, ha.input, ha.out, ha.state, ha.value, ha.over⟩ rfl rfl rfl hstep
  have s1 : stepS [l] s = doS m (Fr.next ⟨0, pc, ws⟩) [] (s.begun ⟨0, pc, ws⟩ []) := by unfold stepS; rw [hs]; show doS (macAt [l] 0 pc) _ _ _ = _; rw [e1]
  have t1 : stepS [putL l k x] t = doS (putM k m) (Fr.next ⟨0, q, ws⟩) [] (t.begun ⟨0, q, ws⟩ []) := by unfold stepS; rw [ht]; show doS (macAt [putL l k x] 0 q) _ _ _ = _; rw [e2]
  rw [s1, t1]
  refine ⟨hR.out, hR.state, hR.value, hR.over, fun ho => ?_⟩
  obtain ⟨hA, d, d', c1, c2, r1, r2, w, hpos⟩ := hR.go ho
  have live : ∀ k', k' < l.length → goB m pc k' = true → Agree (fun r => liveB l r k') (doS m (Fr.next ⟨0, pc, ws⟩) [] (s.begun ⟨0, pc, ws⟩ [])) (doS (putM k m) (Fr.next ⟨0, q, ws⟩) [] (t.begun ⟨0, q, ws⟩ [])) := fun k' hk' hgo => hA.more fun r _ hr => by
    cases hw : wrS m r
    · show (false || liveB l r pc) = true
      rw [live_step l r pc hpc]
      unfold stepB
      rw [hm]
      simp only [hw, Bool.not_false, Bool.true_and, Bool.or_eq_true, List.any_eq_true, List.mem_range, Bool.and_eq_true, Bool.false_eq_true, false_or]
      exact .inr ⟨k', hk', hgo, hr⟩
    · rfl
  rcases hpos with ⟨p1, p2, n37, n45⟩ | ⟨o1, o2, p1, p2⟩
  · have hlt : pc + 1 < l.length := by
      obtain ⟨m', hm', ho'⟩ := hl.last
      rcases Nat.lt_or_ge (pc + 1) l.length with h | h
      · exact h
      · exfalso
        rw [show l.length - 1 = pc by omega, hm] at hm'
        cases hm'
        rcases ho' with h | h
        · exact n37 h
        · exact n45 h
    refine ⟨pc + 1, d.ws, hlt, ?_, ?_, live _ hlt (by unfold goB; simp [n37, n45])⟩
    · rw [c1]
      obtain ⟨_, _, _⟩ := d
      simp only at r1 p1
      subst r1 p1
      rfl
    · rw [c2]
      obtain ⟨_, _, _⟩ := d'
      simp only at r2 p2 w
      subst r2 p2 w
      congr 2
      show q + 1 = shP k (pc + 1)
      rw [hq]
      unfold shP
      split <;> split <;> omega
  · have ht := hg.t ⟨o1, o2⟩
    have hlt : m.n.toNat < l.length := by omega
    refine ⟨m.n.toNat, d.ws, hlt, ?_, ?_, live _ hlt (by
      unfold goB
      have := q13.2 ⟨o1, o2⟩
      simp only [this, Bool.true_and, Bool.and_eq_true, decide_eq_true_eq, Bool.or_eq_true]
      exact ⟨by omega, .inl (by omega)⟩)⟩
    · rw [c1]
      obtain ⟨_, _, _⟩ := d
      simp only at r1 p1
      subst r1 p1
      rfl
    · rw [c2]
      obtain ⟨_, _, _⟩ := d'
      simp only at r2 p2 w
      subst r2 p2 w
      congr 2
      unfold putM shP
      have := q13.2 ⟨o1, o2⟩
      split
      · rw [if_neg (by omega)]; show (m.n + 1).toNat = _; omega
      · rename_i h
        rw [if_pos (by
          rcases Int.lt_or_le (k : Int) m.n with h' | h'
          · exact absurd ⟨this, h'⟩ h
          · omega)]
/-- A step of the first run is one or two of the second. -/
theorem sim_step (hl : GoodL l 1) (h44 : ∀ m ∈ l, m.op ≠ 44) (hk : k < l.length) (h0 : 0 ≤ reg) (h1 : reg < 16) (hdead : liveB l reg.toNat k = false) {s t : Mch} (h : Sim l k s t) (ho : s.over = false) :
    Sim l k (stepS [l] s) (stepS [putL l k ⟨1, reg, 0, 0, n⟩] t) ∨ ((stepS [putL l k ⟨1, reg, 0, 0, n⟩] t).over = false ∧ Sim l k (stepS [l] s) (stepS [putL l k ⟨1, reg, 0, 0, n⟩] (stepS [putL l k ⟨1, reg, 0, 0, n⟩] t))) := by
  obtain ⟨hout, hst, hv, hov, hgo⟩ := h
  obtain ⟨pc, ws, hpc, hs, ht, ha⟩ := hgo ho
  by_cases e : pc = k
  · right
    subst e
    have e2 : macAt [putL l pc ⟨1, reg, 0, 0, n⟩] 0 pc = ⟨1, reg, 0, 0, n⟩ := by
      unfold macAt
      show (putL l pc _).getD pc _ = _
      rw [List.getD_eq_getElem?_getD, putL_at _ (by omega)]
      rfl
    have t1 : stepS [putL l pc ⟨1, reg, 0, 0, n⟩] t = (t.begun ⟨0, pc, ws⟩ []).set reg n := by
      unfold stepS
      rw [ht]
      show doS (macAt [putL l pc _] 0 (shP pc pc)) _ _ _ = _
      rw [show shP pc pc = pc by unfold shP; rw [if_pos (Nat.le_refl _)], e2]
      rfl
    rw [t1]
    refine ⟨by show t.over = false; rw [hov, ho], sim_do (t := (t.begun ⟨0, pc, ws⟩ []).set reg n) hl h44 hk (ws := ws) (q := pc + 1) hpc hs rfl (by rw [if_neg (by omega)]) ⟨ha.r1, by simp [Mch.set, Mch.begun, ha.r2], fun r hr hp => ?_, ha.mem, ha.input, ha.out, ha.state, ha.value, ha.over⟩ _⟩
    show (t.regs.set reg.toNat n).getD r 0 = _
    rw [getD_set (by rw [ha.r2]; omega), if_neg (fun e => by subst e; rw [hdead] at hp; cases hp)]
    exact ha.regs r hr hp
  · left
    refine sim_do hl h44 hk hpc hs ht ?_ ha _
    unfold shP
    split <;> split <;> omega
theorem sim_run (hl : GoodL l 1) (h44 : ∀ m ∈ l, m.op ≠ 44) (hk : k < l.length) (h0 : 0 ≤ reg) (h1 : reg < 16) (hdead : liveB l reg.toNat k = false) {s t : Mch} (h : Sim l k s t) :
    ∀ j, ∃ i, i ≤ 2 * j ∧ Sim l k (runS [l] s j) (runS [putL l k ⟨1, reg, 0, 0, n⟩] t i)
  | 0 => ⟨0, Nat.le_refl _, h⟩
  | j + 1 => by
    obtain ⟨i, hi, hs⟩ := sim_run hl h44 hk h0 h1 hdead h j
    cases ho : (runS [l] s j).over
    · have ho' : (runS [putL l k ⟨1, reg, 0, 0, n⟩] t i).over = false := by rw [hs.2.2.2.1, ho]
      rw [(run_succ ho).1]
      rcases sim_step (n := n) hl h44 hk h0 h1 hdead hs ho with h' | ⟨o2, h'⟩
      · refine ⟨i + 1, by omega, ?_⟩
        rw [(run_succ ho').1]
        exact h'
      · rw [← (run_succ ho').1] at o2 h'
        refine ⟨i + 2, by omega, ?_⟩
        rw [show i + 2 = i + 1 + 1 from rfl, (run_succ o2).1]
        exact h'
    · refine ⟨i, by omega, ?_⟩
      rw [(run_over ho (j + 1) (by omega)).1]
      exact hs
/-- The law of the register that is not live. -/
theorem dead_law (hl : GoodL l 1) (h44 : ∀ m ∈ l, m.op ≠ 44) (hk : k < l.length) (h0 : 0 ≤ reg) (h1 : reg < 16) (hdead : liveB l reg.toNat k = false) (mem inp : List Int) (j : Nat) :
    (runS [l] (startS mem inp) j).told.state = 1 ∨ ((runS [putL l k ⟨1, reg, 0, 0, n⟩] (startS mem inp) (2 * j + 1)).told.state = (runS [l] (startS mem inp) j).told.state ∧
      (runS [putL l k ⟨1, reg, 0, 0, n⟩] (startS mem inp) (2 * j + 1)).told.value = (runS [l] (startS mem inp) j).told.value ∧ (runS [putL l k ⟨1, reg, 0, 0, n⟩] (startS mem inp) (2 * j + 1)).told.out = (runS [l] (startS mem inp) j).told.out) := by
  have hst : Sim l k (startS mem inp) (startS mem inp) := ⟨rfl, rfl, rfl, rfl, fun _ => ⟨0, List.replicate 120 0, hl.pos, rfl, by unfold shP; rw [if_pos (Nat.zero_le _)]; rfl, by simp [startS], by simp [startS], fun _ _ _ => rfl, rfl, rfl, rfl, rfl, rfl, rfl⟩⟩
  obtain ⟨i, hi, o1, o2, o3, o4, _⟩ := sim_run (n := n) hl h44 hk h0 h1 hdead hst j
  cases ho : (runS [l] (startS mem inp) j).over
  · left
    unfold Mch.told
    rw [if_neg (by rw [ho]; simp)]
  · right
    rw [ho] at o4
    rw [(run_over o4 (2 * j + 1) (by omega)).1]
    unfold Mch.told
    rw [if_pos ho, if_pos o4]
    exact ⟨o2, o3, o1⟩
end
end Go.Proofs.YtkiaffaieniebaaDoor
namespace Go.Proofs.YtkiaffaieniebaaDoor
open Go.RowKit

/-- What has been put together behind i instructions. -/
def putTo (ms : List Mac) (k : Nat) (m : Mac) : Nat → List Mac
  | 0 => []
  | i + 1 => putTo ms k m i ++ (if i = k then [m] else []) ++ (ms[i]?.map (putM k)).toList
theorem putTo_lo {ms : List Mac} {k : Nat} {m : Mac} : ∀ i, i ≤ k → i ≤ ms.length → putTo ms k m i = (ms.take i).map (putM k)
  | 0, _, _ => rfl
  | i + 1, h1, h2 => by
    unfold putTo
    rw [putTo_lo i (by omega) (by omega), if_neg (by omega), List.take_add_one, List.map_append, List.append_nil]
    congr 1
    cases ms[i]? <;> rfl
theorem putTo_hi {ms : List Mac} {k : Nat} {m : Mac} : ∀ i, k < i → i ≤ ms.length → putTo ms k m i = putL (ms.take i) k m
  | 0, h, _ => absurd h (Nat.not_lt_zero _)
  | i + 1, h1, h2 => by
    have hm : ms[i]? = some ms[i] := List.getElem?_eq_getElem (by omega)
    unfold putTo
    rw [hm]
    by_cases e : i = k
    · subst e
      rw [putTo_lo i (Nat.le_refl _) (by omega), if_pos rfl]
      unfold putL
      rw [List.take_add_one, hm]
      have hl : (ms.take i).length = i := by rw [List.length_take]; omega
      rw [Option.toList_some, List.take_left' hl, List.drop_left' hl, List.append_assoc]
      rfl
    · rw [putTo_hi i (by omega) (by omega), if_neg e]
      unfold putL
      rw [List.take_add_one, hm]
      have h3 : k - (ms.take i).length = 0 := by rw [List.length_take]; omega
      rw [List.take_append, List.drop_append, h3]
      simp
theorem putTo_len (ms : List Mac) (k : Nat) (m : Mac) : ∀ i, (putTo ms k m i).length ≤ 2 * i
  | 0 => Nat.le_refl _
  | i + 1 => by
    have := putTo_len ms k m i
    unfold putTo
    simp only [List.length_append]
    have h1 : (if i = k then [m] else []).length ≤ 1 := by split <;> simp
    have h2 : (ms[i]?.map (putM k)).toList.length ≤ 1 := by cases ms[i]? <;> simp
    omega
theorem putTo_end {ms : List Mac} {k : Nat} {m : Mac} (h : k < ms.length) : putTo ms k m ms.length = putL ms k m := by
  rw [putTo_hi _ h (Nat.le_refl _), List.take_length]
set_option maxHeartbeats 2000000 in
theorem Put_any (v : Value) (ms : List Mac) (k : Nat) (x : Mac) (w : World) (hv : MacsAt w w.heap.size v ms) (hk : k < ms.length) (h5 : ms.length ≤ 5000) (hsm : ∀ m ∈ ms, hasS (fldS m.op) 116 = true → m.n < 9223372036854775807) :
    Calls Tryd.prog 31 #[v, .int .i64 (k : Int), .agg #[.int .i64 x.op, .int .i64 x.dst, .int .i64 x.a, .int .i64 x.b, .int .i64 x.n], .bool false] w fun e w' => ∃ v', e = .returned v' ∧ OwnMacs w' w.heap.size v' (putL ms k x) ∧ Below w.heap.size w w' := by
  have HPE : Hid (∀ v' (w' : World), OwnMacs w' w.heap.size v' (putL ms k x) → Below w.heap.size w w' → ∃ v'', Ending.returned v' = .returned v'' ∧ OwnMacs w' w.heap.size v'' (putL ms k x) ∧ Below w.heap.size w w') :=
    Lib.hid fun v w' h1 h2 => ⟨v, rfl, h1, h2⟩
  obtain ⟨A, c, rfl, h1, h2, h3⟩ := hv
  obtain ⟨b, off, rfl, hbw, hcell⟩ := h3 (by omega)
  have HC := Lib.hid hcell
  have HSm := Lib.hid hsm
  have HEnd := Lib.hid (putTo_end (m := x) hk)
  have HT := Lib.hid (putTo_len ms k x)
  obtain ⟨len, hlen⟩ : ∃ len, ms.length = len := ⟨_, rfl⟩
  have HL := Lib.hid hlen
  rw [hlen] at h1 h2 h5 hk HEnd ⊢
  obtain ⟨xop, xd, xa, xb, xn⟩ := x
  have HA : Hid (Below w.heap.size w (w.alloc (.cells #[.int .i64 xop, .int .i64 xd, .int .i64 xa, .int .i64 xb, .int .i64 xn] 24))) := Lib.hid ((Below.refl _ _).alloc (Nat.le_refl _) _)
  have HK : Hid (Blk (w.alloc (.cells #[.int .i64 xop, .int .i64 xd, .int .i64 xa, .int .i64 xb, .int .i64 xn] 24)) w.heap.size 24 #[.int .i64 xop, .int .i64 xd, .int .i64 xa, .int .i64 xb, .int .i64 xn]) := Lib.hid (Blk.new _ _ _)
  clear hcell hsm hlen h3
  go_enter Tryd.func31, Tryd.ntmps31
  go_wp2_with fail
  generalize w.alloc (.cells #[.int .i64 xop, .int .i64 xd, .int .i64 xa, .int .i64 xb, .int .i64 xn] 24) = W at *
  have hz0 : w.heap.size < W.heap.size := HK.out.lt
  go_loopw [9, 10] (fun v i wr => ∃ q : Nat, q ≤ len ∧ i = .int .i64 q ∧ Hid (Below W.heap.size W wr) ∧ Hid (OwnMacs wr W.heap.size v (putTo ms k ⟨xop, xd, xa, xb, xn⟩ q))) (fun _ i _ => len - (intOf i).toNat)
  case atStart => exact ⟨0, Nat.zero_le _, rfl, Lib.hid (Below.refl _ _), Lib.hid (OwnMacs.nil _ _)⟩
  case round =>
    obtain ⟨q, hq, rfl, HB, HO⟩ := hrel
    by_cases hlt : q < len
    · obtain ⟨⟨op, dst, a, b', nn⟩, hm⟩ : ∃ m, ms[q]? = some m := ⟨ms[q]'(by rw [HL.out]; exact hlt), List.getElem?_eq_getElem _⟩
      have Hm := Lib.hid hm
      have HSq := Lib.hid (HSm.out _ (List.mem_of_getElem? hm))
      have hTl := HT.out q
      clear hm
      go_upto_if 20 with fail
      go_cut [9] (fun s wx => Hid (Below W.heap.size W wx) ∧ Hid (OwnMacs wx W.heap.size s (putTo ms k ⟨xop, xd, xa, xb, xn⟩ q ++ if q = k then [⟨xop, xd, xa, xb, xn⟩] else [])))
      case first =>
        by_cases hqk : q = k
        · have hb : ((q : Int) == (k : Int)) = true := by simp [hqk]
          have hKr := HK.out.below HB.out HK.out.lt
          have d0 := hKr.cell 0
          have d1 := hKr.cell 1
          have d2 := hKr.cell 2
          have d3 := hKr.cell 3
          have d4 := hKr.cell 4
          have Hqk := Lib.hid hqk
          clear hqk hKr
          go_wp2_with (at_builtin; refine app_one rfl _ _ 25 24 rfl (.agg #[.int .i64 0, .int .i64 0, .int .i64 0, .int .i64 0, .int .i64 0]) 5 40 Tryd.underlying25 infoMac rfl (by decide) (by decide) W.heap.size u9 _ _ (by rfl) HO.out _ [.int .i64 xop, .int .i64 xd, .int .i64 xa, .int .i64 xb, .int .i64 xn] (by rfl) rfl (fun x hx => by simp at hx; rcases hx with rfl | rfl | rfl | rfl | rfl <;> rfl) rfl (by have := hTl; omega) HB.out.size ?_; intro v4 w4 HA4)
          go_meet
          refine ⟨Lib.hid (HB.out.trans HA4.out.below), Lib.hid ?_⟩
          rw [if_pos Hqk.out]
          exact OwnMacs.snoc (m := ⟨xop, xd, xa, xb, xn⟩) HA4.out.own
        · have hb : ((q : Int) == (k : Int)) = false := by simp; omega
          have Hqk := Lib.hid hqk
          clear hqk
          go_wp2_with fail
          go_meet
          exact ⟨HB, Lib.hid (by rw [if_neg Hqk.out, List.append_nil]; exact HO.out)⟩
      case rest =>
        obtain ⟨HB, HO⟩ := hcut
        have hl1 : (putTo ms k ⟨xop, xd, xa, xb, xn⟩ q ++ if q = k then [(⟨xop, xd, xa, xb, xn⟩ : Mac)] else []).length ≤ 2 * q + 1 := by
          rw [List.length_append]
          have : (if q = k then [(⟨xop, xd, xa, xb, xn⟩ : Mac)] else []).length ≤ 1 := by split <;> simp
          omega
        have HSu : Hid (putTo ms k ⟨xop, xd, xa, xb, xn⟩ (q + 1) = (putTo ms k ⟨xop, xd, xa, xb, xn⟩ q ++ if q = k then [(⟨xop, xd, xa, xb, xn⟩ : Mac)] else []) ++ [putM k ⟨op, dst, a, b', nn⟩]) := Lib.hid (by
          show _ ++ _ ++ (ms[q]?.map (putM k)).toList = _
          rw [Hm.out]; rfl)
        generalize (putTo ms k ⟨xop, xd, xa, xb, xn⟩ q ++ if q = k then [(⟨xop, xd, xa, xb, xn⟩ : Mac)] else []) = zs at *
        have ⟨c0, c1, c2, c3, c4⟩ := (HC.out q _ Hm.out).below (HA.out.trans (HB.out.mono (by omega))) hbw
        have hq0 : (0 : Int) ≤ (q : Int) := Int.natCast_nonneg _
        have hq1 : (q : Int) < (len : Int) := by omega
        go_upto_region 8 with fail
        have HXk : Hid (Blk (wc.alloc (.cells #[.int .i64 op, .int .i64 dst, .int .i64 a, .int .i64 b', .int .i64 nn] 24)) wc.heap.size 24 #[.int .i64 op, .int .i64 dst, .int .i64 a, .int .i64 b', .int .i64 nn]) := Lib.hid (Blk.new _ _ _)
        have HA3 : Hid (Below wc.heap.size wc (wc.alloc (.cells #[.int .i64 op, .int .i64 dst, .int .i64 a, .int .i64 b', .int .i64 nn] 24))) := Lib.hid ((Below.refl _ _).alloc (Nat.le_refl _) _)
        have HO3 := Lib.hid (HO.out.below HA3.out rfl)
        have HNe : Hid (∀ x, Value.ownBlock u9 = some x → x ≠ wc.heap.size) := Lib.hid fun x hx => by
          have := (World.ownsRow.lt HO.out x hx).2
          omega
        generalize wc.alloc (.cells #[.int .i64 op, .int .i64 dst, .int .i64 a, .int .i64 b', .int .i64 nn] 24) = W3 at *
        have hz3 : wc.heap.size < W3.heap.size := HXk.out.lt
        have hzc : W.heap.size ≤ wc.heap.size := HB.out.size
        generalize wc.heap.size = gx at *
        have HZ := Lib.hid (fld_ok op)
        clear c0 c1 c2 c3 c4
        go_cut [47] (fun s wx => s = .bool (hasS (fldS op) 116 && decide ((k : Int) < nn)) ∧ Hid (Below W3.heap.size W3 wx))
        case first =>
          have c0 := HXk.out.cell 0
          go_wp2_with fail
          refine (Fields_any op _).mono ?_
          rintro e w5 ⟨rfl, hb5⟩
          have HB5 := Lib.hid hb5
          have d4 := (HXk.out.below hb5 HXk.out.lt).cell 4
          clear hb5 c0
          cases ht : hasS (fldS op) 116
          · have Ht := Lib.hid ht
            clear ht
            go_wp2_with (go_at_call 44; refine (Has_any _ _ _ HZ.out).mono ?_; rintro e w' ⟨rfl, rfl⟩; rw [Ht.out])
            go_meet
            exact ⟨by rw [Ht.out]; rfl, HB5⟩
          · have Ht := Lib.hid ht
            clear ht
            by_cases hgt : (k : Int) < nn
            · go_wp2_with (go_at_call 44; refine (Has_any _ _ _ HZ.out).mono ?_; rintro e w' ⟨rfl, rfl⟩; rw [Ht.out])
              go_meet
              exact ⟨by rw [Ht.out, decide_eq_true hgt]; rfl, HB5⟩
            · by_cases heq : nn = (k : Int)
              · have hbe : (nn == (k : Int)) = true := by simp [heq]
                have hgf : ¬ ((k : Int) < (k : Int)) := by omega
                subst heq
                go_wp2_with (go_at_call 44; refine (Has_any _ _ _ HZ.out).mono ?_; rintro e w' ⟨rfl, rfl⟩; rw [Ht.out])
                go_meet
                exact ⟨by rw [Ht.out, decide_eq_false (by omega)]; rfl, HB5⟩
              · have hbe : (nn == (k : Int)) = false := by simpa using heq
                go_wp2_with (go_at_call 44; refine (Has_any _ _ _ HZ.out).mono ?_; rintro e w' ⟨rfl, rfl⟩; rw [Ht.out])
                go_meet
                exact ⟨by rw [Ht.out, decide_eq_false (by omega)]; rfl, HB5⟩
        case rest =>
          obtain ⟨rfl, HB5⟩ := hcut
          have HX5 := Lib.hid (HXk.out.below HB5.out HXk.out.lt)
          have HB35 := Lib.hid (HA3.out.trans (HB5.out.mono (by omega)))
          cases hcc : (hasS (fldS op) 116 && decide ((k : Int) < nn))
          · have Hp : Hid (putM k ⟨op, dst, a, b', nn⟩ = ⟨op, dst, a, b', nn⟩) := Lib.hid (by
              unfold putM
              rw [if_neg]
              intro h
              rw [h.1, decide_eq_true h.2] at hcc
              cases hcc)
            have HB6 := Lib.hid (HB.out.trans (HB35.out.mono (by omega)))
            have HO6 := Lib.hid (HO3.out.below HB5.out rfl)
            have e0 := HX5.out.cell 0
            have e1 := HX5.out.cell 1
            have e2 := HX5.out.cell 2
            have e3 := HX5.out.cell 3
            have e4 := HX5.out.cell 4
            clear hcc
            go_wp2_with (at_builtin; refine app_one rfl _ _ 25 24 rfl (.agg #[.int .i64 0, .int .i64 0, .int .i64 0, .int .i64 0, .int .i64 0]) 5 40 Tryd.underlying25 infoMac rfl (by decide) (by decide) W.heap.size u9 _ _ (by rfl) HO6.out _ [.int .i64 op, .int .i64 dst, .int .i64 a, .int .i64 b', .int .i64 nn] (by rfl) rfl (fun x hx => by simp at hx; rcases hx with rfl | rfl | rfl | rfl | rfl <;> rfl) rfl (by omega) HB6.out.size ?_; intro v4 w4 HA4)
            go_roundw
            case rel =>
              refine ⟨q + 1, by omega, by go_num, Lib.hid (HB6.out.trans HA4.out.below), Lib.hid ?_⟩
              rw [HSu.out, Hp.out]
              exact OwnMacs.snoc (m := ⟨op, dst, a, b', nn⟩) HA4.out.own
            case measure => simp [intOf]; omega
          · have hcs : hasS (fldS op) 116 = true ∧ (k : Int) < nn := by simpa using hcc
            have Hp : Hid (putM k ⟨op, dst, a, b', nn⟩ = ⟨op, dst, a, b', nn + 1⟩) := Lib.hid (by
              unfold putM
              rw [if_pos hcs])
            have hn9 := HSq.out hcs.1
            simp only at hn9
            have hn8 : -9223372036854775808 ≤ nn := by omega
            have hw1 : IntKind.i64.wrap (nn + 1) = nn + 1 := by rw [IntKind.wrap_i64]; omega
            have f4 := HX5.out.frozen 4
            have d4 := HX5.out.cell 4
            clear hcc hcs hn9
            go_upto_region 10 with fail
            have HO6 := Lib.hid (ownsRow_setCell_other (HO3.out.below HB5.out rfl) (a := ⟨gx, 4, none⟩) (by cases hb : Value.ownBlock u9 with | none => simp | some x => simpa using HNe.out x hb) (.int .i64 (nn + 1)))
            have HX6 := Lib.hid (HX5.out.set_ 4 (.int .i64 (nn + 1)))
            have HB6 := Lib.hid ((HB.out.trans (HB35.out.mono (by omega))).setCell (p := ⟨gx, 4, none⟩) (by show _ ≤ gx; omega) (.int .i64 (nn + 1)))
            generalize wc.setCell ⟨gx, 4, none⟩ (.int .i64 (nn + 1)) = W6 at *
            have e0 := HX6.out.cell 0
            have e1 := HX6.out.cell 1
            have e2 := HX6.out.cell 2
            have e3 := HX6.out.cell 3
            have e4 := HX6.out.cell 4
            clear d4 f4
            go_wp2_with (at_builtin; refine app_one rfl _ _ 25 24 rfl (.agg #[.int .i64 0, .int .i64 0, .int .i64 0, .int .i64 0, .int .i64 0]) 5 40 Tryd.underlying25 infoMac rfl (by decide) (by decide) W.heap.size u9 _ _ (by rfl) HO6.out _ [.int .i64 op, .int .i64 dst, .int .i64 a, .int .i64 b', .int .i64 (nn + 1)] (by rfl) rfl (fun x hx => by simp at hx; rcases hx with rfl | rfl | rfl | rfl | rfl <;> rfl) rfl (by omega) HB6.out.size ?_; intro v4 w4 HA4)
            go_roundw
            case rel =>
              refine ⟨q + 1, by omega, by go_num, Lib.hid (HB6.out.trans HA4.out.below), Lib.hid ?_⟩
              rw [HSu.out, Hp.out]
              exact OwnMacs.snoc (m := ⟨op, dst, a, b', (nn + 1)⟩) HA4.out.own
            case measure => simp [intOf]; omega
    · obtain rfl : len = q := by omega
      go_wp2_with fail
      go_ret
      exact HPE.out _ _ (by rw [← HEnd.out]; exact OwnMacs.more HO.out (by omega)) (HA.out.trans (HB.out.mono (by omega)))
end Go.Proofs.YtkiaffaieniebaaDoor
namespace Go.Proofs.YtkiaffaieniebaaDoor
open Go.RowKit

set_option maxHeartbeats 2000000 in
theorem KComes_any (s t : Mch) (ov pv : Value) (w : World) (h1 : IntsAt w w.heap.size ov s.out) (h2 : IntsAt w w.heap.size pv t.out) (e1 : t.state = s.state) (e2 : t.value = s.value) (e3 : t.out = s.out) :
    Calls Tryd.prog 32 #[outV s ov, outV t pv] w fun e w' => e = .returned (.bool true) ∧ Below w.heap.size w w' := by
  obtain ⟨regs, mem, calls, input, out, steps, state, value, over⟩ := s
  obtain ⟨regs', mem', calls', input', out', steps', state', value', over'⟩ := t
  simp only at h1 h2 e1 e2 e3
  subst e1 e2 e3
  unfold outV
  simp only
  obtain ⟨len, hlen⟩ : ∃ len, out'.length = len := ⟨_, rfl⟩
  have HLen := Lib.hid hlen
  have hA : Below w.heap.size w ((w.alloc (.cells #[.int .i64 state', .int .i64 value', ov, .int .i64 (steps : Int)] 28)).alloc (.cells #[.int .i64 state', .int .i64 value', pv, .int .i64 (steps' : Int)] 28)) := ((Below.refl _ _).alloc (Nat.le_refl _) _).alloc (by simp) _
  have H1 := Lib.hid ((h1.below hA (Nat.le_refl _)).more hA.size)
  have H2 := Lib.hid ((h2.below hA (Nat.le_refl _)).more hA.size)
  have HK1 := Lib.hid ((Blk.new w 28 #[.int .i64 state', .int .i64 value', ov, .int .i64 (steps : Int)]).alloc (.cells #[.int .i64 state', .int .i64 value', pv, .int .i64 (steps' : Int)] 28))
  have HK2 : Hid (Blk ((w.alloc (.cells #[.int .i64 state', .int .i64 value', ov, .int .i64 (steps : Int)] 28)).alloc (.cells #[.int .i64 state', .int .i64 value', pv, .int .i64 (steps' : Int)] 28)) (w.heap.size + 1) 28 #[.int .i64 state', .int .i64 value', pv, .int .i64 (steps' : Int)]) := Lib.hid (by
    have := Blk.new (w.alloc (.cells #[.int .i64 state', .int .i64 value', ov, .int .i64 (steps : Int)] 28)) 28 #[.int .i64 state', .int .i64 value', pv, .int .i64 (steps' : Int)]
    simpa using this)
  have HA := Lib.hid hA
  obtain ⟨A1, c1, q1, _⟩ := h1
  subst q1
  obtain ⟨A2, c2, q2, _⟩ := h2
  subst q2
  clear hA
  rw [hlen] at HK1 HK2 HA H1 H2 ⊢
  have hb1 : (state' == state') = true := by simp
  have hb2 : (value' == value') = true := by simp
  have hb3 : ((len : Int) == (len : Int)) = true := by simp
  clear hlen
  go_enter Tryd.func32, Tryd.ntmps32
  go_upto_region 1 with fail
  generalize (w.alloc (.cells #[.int .i64 state', .int .i64 value', .slice A1 len c1, .int .i64 (steps : Int)] 28)).alloc (.cells #[.int .i64 state', .int .i64 value', .slice A2 len c2, .int .i64 (steps' : Int)] 28) = W at *
  have a0 := HK1.out.cell 0
  have a1 := HK1.out.cell 1
  have a2 := HK1.out.cell 2
  have b0 := HK2.out.cell 0
  have b1 := HK2.out.cell 1
  have b2 := HK2.out.cell 2
  go_wp2_with fail
  go_loopw [5] (fun i wr => ∃ j : Nat, j ≤ len ∧ i = .int .i64 j ∧ Hid (Below W.heap.size W wr)) (fun i _ => len - (intOf i).toNat)
  case atStart => exact ⟨0, Nat.zero_le _, rfl, Lib.hid (Below.refl _ _)⟩
  case round =>
    obtain ⟨j, hj, rfl, HB⟩ := hrel
    have k1 := HK1.out.below HB.out HK1.out.lt
    have k2 := HK2.out.below HB.out HK2.out.lt
    clear a0 a1 a2 b0 b1 b2
    have a2 := k1.cell 2
    have b2 := k2.cell 2
    clear k1 k2
    by_cases hlt : j < len
    · obtain ⟨A', c', e', hl1, _, h3⟩ := H1.out
      obtain ⟨p1, o1, hA1, hp1, hc1⟩ := h3 (by rw [HLen.out]; omega)
      obtain rfl : A1 = A' := (Value.slice.inj e').1
      subst hA1
      obtain ⟨A'', c'', e'', hl2, _, h4⟩ := H2.out
      have hw1 : IntKind.i64.wrap ((j : Int) + 1) = (j : Int) + 1 := by rw [IntKind.wrap_i64]; rw [HLen.out] at hl1; omega
      obtain ⟨p2, o2, hA2, hp2, hc2⟩ := h4 (by rw [HLen.out]; omega)
      obtain rfl : A2 = A'' := (Value.slice.inj e'').1
      subst hA2
      obtain ⟨x, hx⟩ : ∃ x, out'[j]? = some x := ⟨out'[j]'(by rw [HLen.out]; exact hlt), List.getElem?_eq_getElem _⟩
      have d1 := (bcell HB.out hp1).trans (hc1 j x hx)
      have d2 := (bcell HB.out hp2).trans (hc2 j x hx)
      have hj0 : (0 : Int) ≤ (j : Int) := Int.natCast_nonneg _
      have hj1 : (j : Int) < (len : Int) := by omega
      have hbx : (x == x) = true := by simp
      clear hc1 hc2 h3 h4 hx e' e'' hl1 hl2 hp1 hp2
      go_upto_region 6 with fail
      go_quiet (fail)
      go_wp2_with fail
      go_roundw
      case rel => exact ⟨j + 1, by omega, rfl, Lib.hid (below_drewN HB.out _)⟩
      case measure => simp [intOf]; omega
    · obtain rfl : len = j := by omega
      go_wp2_with fail
      go_ret
      exact ⟨rfl, HA.out.trans (HB.out.mono HA.out.size)⟩
/-- Running the image of one routine. -/
theorem Run_alone {ms : List Mac} {inp : List Int} {n : Nat} {gv rv iv : Value} {V : World} {base : Nat} (hck : (checkS ms).1 = 0) (hi : ∀ m ∈ ms, m.ok) (hfar : ms.any (farB 1) = false) (hin : inp.length ≤ 30) (hf : n ≤ 900000)
    (hg : GlobsAt V V.heap.size gv kGlobs) (hr : RoutsAt V V.heap.size rv [⟨mainB, codeL ms⟩]) (hiv : V.ownsRow base 3 1 iv inp.length (intV inp)) (ht : Tab V) :
    Calls Tryd.prog 14 #[.agg #[gv, rv], iv, .int .i64 (n : Int)] V fun e w' => ∃ A c, e = .returned (runV (runS [ms] (startS [5, 0, 0] inp) n).told (.slice A (runS [ms] (startS [5, 0, 0] inp) n).told.out.length c) (0, 0)) ∧
      w'.ownsRow V.heap.size 3 1 (.slice A (runS [ms] (startS [5, 0, 0] inp) n).told.out.length c) (runS [ms] (startS [5, 0, 0] inp) n).told.out.length (intV (runS [ms] (startS [5, 0, 0] inp) n).told.out) ∧ Below V.heap.size V w' := by
  obtain ⟨q1, q2, _⟩ := alone_run hck hi hfar hin hf
  have hcall := Run_any gv rv iv kGlobs [⟨mainB, codeL ms⟩] inp (n : Int) V hg hr (row_ints hiv rfl) kGlobs_ok (alone_rok hck hi) ht
  rw [q1, q2] at hcall
  refine hcall.mono ?_
  rintro e w' ⟨ov, rfl, h1, h2⟩
  obtain ⟨A, c, rfl⟩ := row_form h1
  exact ⟨A, c, rfl, h1, h2⟩
theorem far_none {ms : List Mac} (h : ∀ m ∈ ms, m.op ≠ 44) (n : Nat) : ms.any (farB n) = false := by
  rw [List.any_eq_false]
  intro m hm
  unfold farB
  simp [h m hm]
theorem codeOf_no44 {l : List Int} {n : Nat} : ∀ m ∈ codeOf l n 0, m.op ≠ 44 := by
  intro m hm
  obtain ⟨j, hj⟩ := List.mem_iff_getElem?.1 hm
  rcases codeOf_get l n 0 j m hj with ⟨a, b, c, _, rfl, _, _, _⟩ | ⟨_, rfl⟩
  · exact (opOf_in a 0).2.2.2 rfl
  · decide
theorem kind_t (op : Int) (h : isOp op = true) : hasS (fldS op) 116 = true ↔ shK op = 2 := by
  rw [isOp_iff] at h
  exact tab_of (p := fun op => hasS (fldS op) 116 = true ↔ shK op = 2) (by decide +kernel) h.1 h.2
theorem number_two (n many : Int) : numberS 2 n many = if n < 0 ∨ many ≤ n then 3 else 0 := rfl
theorem number_more {kind n many : Int} (h : numberS kind n many = 0) (h2 : kind ≠ 2) (h9 : kind = 0 ∨ kind = 1 ∨ kind = 2 ∨ kind = 3 ∨ kind = 4) : numberS kind n (many + 1) = 0 := by
  rcases h9 with rfl | rfl | rfl | rfl | rfl
  · exact h
  · exact h
  · exact absurd rfl h2
  · exact h
  · exact h
theorem putM_fault (k : Nat) {m : Mac} {many : Int} (h : faultS m many = 0) : faultS (putM k m) (many + 1) = 0 := by
  rw [fault_zero] at h ⊢
  obtain ⟨h1, h2, h3, h4, h5, h6⟩ := h
  obtain ⟨e1, e2, e3, e4⟩ := putM_op k m
  rw [e1, e2, e3, e4]
  refine ⟨h1, ?_, h3, h4, h5, ?_⟩
  · unfold RegsOk at h2 ⊢
    rw [e1, e2, e3, e4]
    exact h2
  · have hk := kind_t m.op h1
    by_cases h2 : shK m.op = 2
    · rw [h2] at h6 ⊢
      have hn : 0 ≤ m.n ∧ m.n < many := by
        rw [number_two] at h6
        split at h6
        · cases h6
        · omega
      rw [number_two]
      unfold putM
      split
      · rw [if_neg (by simp only; omega)]
      · rw [if_neg (by omega)]
    · rw [show putM k m = m by unfold putM; rw [if_neg fun h => h2 (hk.1 h.1)]]
      refine number_more h6 h2 ?_
      unfold shK
      split
      · simp
      split
      · simp
      split
      · simp
      split <;> simp
theorem putL_ok {l : List Mac} {k : Nat} {x : Mac} (hl : (checkS l).1 = 0) (hk : k < l.length) (h5 : l.length < 5000) (hx : faultS x ((l.length : Int) + 1) = 0) : (checkS (putL l k x)).1 = 0 := by
  rw [code_ok_iff] at hl ⊢
  obtain ⟨h1, h2, m, h3, h4⟩ := hl
  rw [putL_len _ _ (by omega)]
  refine ⟨by omega, fun j m' hj => ?_, putM k m, ?_, by rw [(putM_op k m).1]; exact h4⟩
  · push_cast
    rcases Nat.lt_trichotomy j k with h | h | h
    · rw [putL_lo x h (by omega)] at hj
      cases hm : l[j]? with
      | none => rw [hm] at hj; cases hj
      | some m0 => rw [hm] at hj; cases hj; exact putM_fault k (h2 j m0 hm)
    · subst h
      rw [putL_at x (by omega)] at hj
      cases hj
      exact hx
    · obtain ⟨i, rfl⟩ : ∃ i, j = i + 1 := ⟨j - 1, by omega⟩
      rw [putL_hi x (by omega) (by omega)] at hj
      cases hm : l[i]? with
      | none => rw [hm] at hj; cases hj
      | some m0 => rw [hm] at hj; cases hj; exact putM_fault k (h2 i m0 hm)
  · rw [show l.length + 1 - 1 = l.length - 1 + 1 by omega, putL_hi x (by omega) (by omega), h3]
    rfl
theorem putL_mem {l : List Mac} {k : Nat} {x m : Mac} (h : m ∈ putL l k x) : m = x ∨ ∃ m0 ∈ l, m = putM k m0 := by
  unfold putL at h
  rw [List.mem_append, List.mem_cons] at h
  rcases h with h | h | h
  · obtain ⟨m0, h0, rfl⟩ := List.mem_map.1 h
    exact .inr ⟨m0, List.mem_of_mem_take h0, rfl⟩
  · exact .inl h
  · obtain ⟨m0, h0, rfl⟩ := List.mem_map.1 h
    exact .inr ⟨m0, List.mem_of_mem_drop h0, rfl⟩
/-- The code of a list of raw numbers and the code with Set put in: all that a run asks. -/
structure Dead (l : List Mac) : Prop where
  ck : (checkS l).1 = 0
  ok : ∀ m ∈ l, m.ok
  no : ∀ m ∈ l, m.op ≠ 44
theorem Dead.far {l : List Mac} (h : Dead l) : l.any (farB 1) = false := far_none h.no 1
theorem Dead.good {l : List Mac} (h : Dead l) : GoodL l 1 := by
  have := goodC_of (alone_rok h.ck h.ok) (by rw [alone_fine h.ck h.ok h.far])
  rw [alone_codes h.ck h.ok] at this
  exact this 0 l rfl
theorem dead_code {la : List Int} (hl : ∀ x ∈ la, I64 x) : Dead (codeOf la 30 0) :=
  ⟨by rw [codeOf_ok la 30 0 (by omega) (by omega)], codeOf_i64 la 30 0 (by omega) (by unfold I64; omega) hl (by omega), codeOf_no44⟩
theorem Dead.jump {l : List Mac} (h : Dead l) : ∀ m ∈ l, hasS (fldS m.op) 116 = true → 0 ≤ m.n ∧ m.n < (l.length : Int) := by
  intro m hm ht
  obtain ⟨j, hj⟩ := List.mem_iff_getElem?.1 hm
  have hg := h.good.all j m hj
  exact hg.t ((sh_tab m.op hg.op1 hg.op2).q13.1 ht)
theorem Dead.put {l : List Mac} (h : Dead l) {k : Nat} (hk : k < l.length) (h5 : l.length < 5000) {reg n : Int} (h0 : 0 ≤ reg) (h1 : reg < 16) (hn : I64 n) : Dead (putL l k ⟨1, reg, 0, 0, n⟩) := by
  refine ⟨putL_ok h.ck hk h5 ?_, fun m hm => ?_, fun m hm => ?_⟩
  · rw [fault_zero]
    have hA : shA 1 = false := by decide +kernel
    have hB : shB 1 = false := by decide +kernel
    have hD : shD 1 = true := by decide +kernel
    refine ⟨by show isOp 1 = true; decide +kernel, by
      unfold RegsOk
      simp only [hA, hB]
      exact ⟨fun _ => ⟨h0, h1⟩, fun h => (by cases h), fun h => (by cases h)⟩, fun h => (by rw [hD] at h; cases h), fun _ => rfl, fun _ => rfl, ?_⟩
    simp only
    rw [show shK 1 = 1 by decide +kernel]
    rfl
  · rcases putL_mem hm with rfl | ⟨m0, hm0, rfl⟩
    · exact ⟨by unfold I64; simp only; omega, by unfold I64; simp only; omega, by unfold I64; simp only; omega, by unfold I64; simp only; omega, hn⟩
    · obtain ⟨o1, o2, o3, o4, o5⟩ := h.ok m0 hm0
      obtain ⟨e1, e2, e3, e4⟩ := putM_op k m0
      refine ⟨by rw [e1]; exact o1, by rw [e2]; exact o2, by rw [e3]; exact o3, by rw [e4]; exact o4, ?_⟩
      unfold putM
      split
      · rename_i ht
        have := h.jump m0 hm0 ht.1
        unfold I64
        simp only
        omega
      · exact o5
  · rcases putL_mem hm with rfl | ⟨m0, hm0, rfl⟩
    · exact (by decide : (1 : Int) ≠ 44)
    · rw [(putM_op k m0).1]
      exact h.no m0 hm0
end Go.Proofs.YtkiaffaieniebaaDoor
