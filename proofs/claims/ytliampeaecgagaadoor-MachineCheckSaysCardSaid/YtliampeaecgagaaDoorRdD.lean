/-
  What the Reader's loop over an instruction's registers keeps; what one instruction read comes to.
  Conditions: none.
-/
import Derived.Test.YtliampeaecgagaaDoorRdC
import Derived.Test.YtliampeaecgagaaDoorByF
import Derived.RegionTactic
import Derived.BigRegion
namespace Go.Proofs.YtliampeaecgagaaDoor
open Go.RowKit

theorem only_far {w w1 : World} {g : Nat} (h : w.grownBy w1 (some g)) {p : Addr} (hp : w.heap.size ≤ p.block) (u : Value) : w.grownBy (w1.setCell p u) (some g) :=
  ⟨h.os, h.tape, h.output, by simpa [World.setCell] using h.size, fun i hi hne => (Below.heap_setCell w1 p u i (by omega)).trans (h.block i hi hne)⟩
theorem only_own {w w1 : World} {g : Nat} (h : w.grownBy w1 (some g)) (o : Nat) (u : Value) : w.grownBy (w1.setCell ⟨g, o, none⟩ u) (some g) := only_trans h (only_set u)
theorem only_alloc {w w1 : World} {g : Nat} (h : w.grownBy w1 (some g)) (o : Obj) : w.grownBy (w1.alloc o) (some g) := only_trans h (World.grownBy_alloc w1 o _)
theorem only_after {w w1 w2 : World} {g B : Nat} (h : w.grownBy w1 (some g)) (hb : Below B w1 w2) (hB : w.heap.size ≤ B) : w.grownBy w2 (some g) :=
  ⟨hb.os.trans h.os, hb.tape.trans h.tape, hb.output.trans h.output, Nat.le_trans h.size hb.size, fun i hi hne => (hb.block i (by omega)).trans (h.block i hi hne)⟩
theorem only_drew {w w1 : World} {g : Nat} (h : w.grownBy w1 (some g)) : w.grownBy w1.drew (some g) := ⟨h.os, h.tape, h.output, h.size, h.block⟩
theorem blk_ne {w : World} {g g' : Nat} {t t' : TypeId} {cs cs' : Array Value} (h : Blk w g t cs) (h' : Blk w g' t' cs') (ht : t ≠ t') : g ≠ g' := by
  rintro rfl
  unfold Blk at h h'
  rw [h] at h'
  cases h'
  exact ht rfl
theorem Blk.drew {w : World} {g : Nat} {t : TypeId} {cs : Array Value} (h : Blk w g t cs) : Blk w.drew g t cs := h
theorem Tab.only {w w' : World} {g : Nat} (h : Tab w) (hg : w.grownBy w' (some g)) (hn : 0 < g) : Tab w' := by
  have hlt := h.1
  refine h.below (B := 0 + 1) ⟨hg.os, hg.tape, hg.output, hg.size, fun i hi => hg.block i (by omega) (by intro e; cases e; omega)⟩ (by omega) (by have := hg.size; omega)

/-- The registers read so far, of k in all. -/
def RegNow (k : Nat) (bs dn left : List Int) (bad : Bool) : Prop :=
  (bad = true ∧ rregS k bs = none) ∨ (bad = false ∧ rregS k bs = (rregS (k - dn.length) left).map fun p => (dn ++ p.1, p.2))
def RegEnd (k : Nat) (bs dn left : List Int) (bad : Bool) : Prop := (bad = true ∧ rregS k bs = none) ∨ (bad = false ∧ rregS k bs = some (dn, left))
theorem RegNow.start (k : Nat) (bs : List Int) : RegNow k bs [] bs false := by
  refine .inr ⟨rfl, ?_⟩
  rw [List.length_nil, Nat.sub_zero]
  cases rregS k bs with
  | none => rfl
  | some p => rfl
theorem RegNow.none_left {k : Nat} {bs dn left : List Int} {bad : Bool} (h : RegNow k bs dn left bad) (hk : k - dn.length = 0) : RegEnd k bs dn left bad := by
  rcases h with h | ⟨h, e⟩
  · exact .inl h
  · refine .inr ⟨h, ?_⟩
    rw [e, hk]
    simp [rregS]
theorem RegNow.one {k : Nat} {bs dn left : List Int} {bad : Bool} (h : RegNow k bs dn left bad) (hk : k - dn.length = 1) : RegEnd k bs (dn ++ [left.headD 0]) left.tail ((bad || left.isEmpty) || decide (15 < left.headD 0)) := by
  rcases h with ⟨rfl, e⟩ | ⟨rfl, e⟩
  · exact .inl ⟨by simp, e⟩
  · rw [hk] at e
    cases left with
    | nil => exact .inl ⟨by simp, e⟩
    | cons x l =>
      by_cases hx : 15 < x
      · refine .inl ⟨by simp [hx], ?_⟩
        rw [e]
        simp [rregS, hx]
      · refine .inr ⟨by simp; omega, ?_⟩
        rw [e]
        simp [rregS, hx]
theorem RegNow.two {k : Nat} {bs dn left : List Int} {bad : Bool} (h : RegNow k bs dn left bad) (hk : 2 ≤ k - dn.length) : RegNow k bs (dn ++ [left.headD 0 / 16, left.headD 0 % 16]) left.tail (bad || left.isEmpty) := by
  obtain ⟨j, hj⟩ : ∃ j, k - dn.length = j + 2 := ⟨k - dn.length - 2, by omega⟩
  have hj' : k - (dn ++ [left.headD 0 / 16, left.headD 0 % 16]).length = j := by simp; omega
  rcases h with ⟨rfl, e⟩ | ⟨rfl, e⟩
  · exact .inl ⟨by simp, e⟩
  · rw [hj] at e
    cases left with
    | nil => exact .inl ⟨by simp, e⟩
    | cons x l =>
      refine .inr ⟨by simp, ?_⟩
      rw [hj', e]
      simp only [rregS, List.headD_cons, List.tail_cons]
      cases rregS j l with
      | none => rfl
      | some p => simp
/-- The places of an Op's registers in its instruction. -/
def regO (op : Int) : List Nat := (if shD op then [1] else []) ++ (if shA op then [2] else []) ++ (if shB op then [3] else [])
theorem regO_len (op : Int) : (regO op).length = manyS op := by unfold regO manyS; split <;> split <;> split <;> simp
theorem regO_le (op : Int) : (regO op).length ≤ 3 := by unfold regO; split <;> split <;> split <;> simp
theorem regP_O (op : Int) (g : Nat) : regP (shD op) (shA op) (shB op) g 3 = (regO op).map fun o => .pointer (some ⟨g, o, none⟩) := by
  unfold regP regO
  cases shD op <;> cases shA op <;> cases shB op <;> simp
theorem regO_in (op : Int) (o : Nat) (h : o ∈ regO op) : o = 1 ∨ o = 2 ∨ o = 3 := by
  unfold regO at h
  simp only [List.mem_append] at h
  rcases h with (h | h) | h <;> split at h <;> simp at h <;> omega
/-- One more register stored. -/
theorem put_one (op x : Int) (dn : List Int) (o : Nat) (h : (regO op)[dn.length]? = some o) : (putRegs op dn 0).cells.toArray.setIfInBounds o (.int .i64 x) = (putRegs op (dn ++ [x]) 0).cells.toArray := by
  unfold regO at h
  unfold putRegs Mac.cells
  cases hd : shD op <;> cases ha : shA op <;> cases hb : shB op <;> simp only [hd, ha, hb, if_true, if_false, Bool.false_eq_true, List.nil_append, List.append_nil, List.cons_append] at h ⊢
  all_goals
    match dn, h with
    | [], h => first | (simp at h; done) | (simp at h; subst h; rfl)
    | [x0], h => first | (simp at h; done) | (simp at h; subst h; rfl)
    | [x0, x1], h => first | (simp at h; done) | (simp at h; subst h; rfl)
    | _ :: _ :: _ :: _, h => simp at h
theorem regO_two (op : Int) (o0 o1 : Nat) (h0 : (regO op)[0]? = some o0) (h1 : (regO op)[1]? = some o1) : (o0 = 1 ∧ o1 = 2) ∨ (o0 = 1 ∧ o1 = 3) ∨ (o0 = 2 ∧ o1 = 3) := by
  unfold regO at h0 h1
  cases hd : shD op <;> cases ha : shA op <;> cases hb : shB op <;> simp [hd, ha, hb] at h0 h1 <;> omega
theorem put_zero (op : Int) : (putRegs op [] 0).cells.toArray = #[.int .i64 op, .int .i64 0, .int .i64 0, .int .i64 0, .int .i64 0] := by
  unfold putRegs Mac.cells
  cases shD op <;> cases shA op <;> cases shB op <;> rfl
theorem put_num (op : Int) (rs : List Int) (n : Int) : (putRegs op rs 0).cells.toArray.setIfInBounds 4 (.int .i64 n) = (putRegs op rs n).cells.toArray := rfl

/-- What one instruction read comes to: it and what is left, or the flag. -/
def MacEnd (bs : List Int) (m : Mac) (rest : List Int) (bad : Bool) : Prop :=
  match readS bs with
  | some (m', l) => m = m' ∧ rest = l ∧ bad = false
  | none => bad = true
def MacPost (w : World) (g B : Nat) (bs : List Int) (e : Ending) (w' : World) : Prop :=
  ∃ (m : Mac) (rest : List Int) (bad : Bool), e = .returned (.agg m.cells.toArray) ∧ RdAt w' g B rest bad ∧ MacEnd bs m rest bad ∧ w.grownBy w' (some g)
theorem readS_cons (op : Int) (l : List Int) : readS (op :: l) = if isOp op then match rregS (manyS op) l with
      | none => none
      | some (rs, l') => if shK op = 0 then some (putRegs op rs 0, l') else match rnS 0 l' with
        | none => none
        | some (n, l'') => some (putRegs op rs (unfoldS n), l'')
    else none := rfl
theorem MacEnd.noop {op : Int} {l rest : List Int} {m : Mac} (h : isOp op = false) : MacEnd (op :: l) m rest true := by
  unfold MacEnd
  rw [readS_cons, h]
  rfl
theorem MacEnd.regs {op : Int} {l rs left : List Int} {bad : Bool} (ho : isOp op = true) (hk : shK op = 0) (h : RegEnd (manyS op) l rs left bad) : MacEnd (op :: l) (putRegs op rs 0) left bad := by
  unfold MacEnd
  rw [readS_cons, if_pos ho]
  rcases h with ⟨rfl, e⟩ | ⟨rfl, e⟩
  · rw [e]
  · rw [e]
    simp only
    rw [if_pos hk]
    refine ⟨rfl, rfl, ?_⟩
    first | rfl | trivial
theorem MacEnd.num {op : Int} {l rs left rest : List Int} {bad bad' : Bool} {k : Nat} (ho : isOp op = true) (hk : shK op ≠ 0) (h : RegEnd (manyS op) l rs left bad) (hn : NumEnd left bad k rest bad') : MacEnd (op :: l) (putRegs op rs (unfoldS k)) rest bad' := by
  unfold MacEnd
  unfold NumEnd at hn
  rw [readS_cons, if_pos ho]
  rcases h with ⟨rfl, e⟩ | ⟨rfl, e⟩
  · rw [e]
    simp only
    cases hr : rnS 0 left with
    | none => rw [hr] at hn; exact hn
    | some p => rw [hr] at hn; exact hn.2.2
  · rw [e]
    simp only
    rw [if_neg hk]
    cases hr : rnS 0 left with
    | none => rw [hr] at hn; exact hn
    | some p =>
      rw [hr] at hn
      obtain ⟨rfl, rfl, rfl⟩ := hn
      exact ⟨rfl, rfl, rfl⟩
theorem and15 (d : Int) (h : 0 ≤ d ∧ d < 256) : bits BinOp.and IntKind.i64 d 15 = d % 16 := by
  have key : ∀ a : Fin 256, bits BinOp.and IntKind.i64 (a.val : Int) 15 = (a.val : Int) % 16 := by decide +kernel
  have := key ⟨d.toNat, by omega⟩
  simp only [show ((d.toNat : Nat) : Int) = d from by omega] at this
  exact this
theorem head_in {left : List Int} (h : BytesOk left) : 0 ≤ left.headD 0 ∧ left.headD 0 < 256 := by
  cases left with
  | nil => simp
  | cons x l => exact h x (by simp)
theorem BytesOk.tail {left : List Int} (h : BytesOk left) : BytesOk left.tail := fun x hx => h x (List.mem_of_mem_tail hx)
end Go.Proofs.YtliampeaecgagaaDoor
