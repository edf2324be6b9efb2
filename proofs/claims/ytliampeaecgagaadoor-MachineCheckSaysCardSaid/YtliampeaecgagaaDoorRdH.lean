/-
  Contract of the reference's ReadMac: one instruction read from a place on.
  Conditions: the bytes are bytes; the place lies in them.
-/
import Derived.Test.YtliampeaecgagaaDoorRdG
namespace Go.Proofs.YtliampeaecgagaaDoor
open Go.RowKit

/-- The end of a function whose first result lies in a cell. -/
theorem end_cell_tmp {P : Program} {fn : Func} {R : Ending → World → Prop} {a : Act} {w : World} {q p : Tmp} {ty t : TypeId} {g : Nat} {cs : Array Value} {d : TypeDesc} (h : fn.results = #[.cell p ty, .tmp q])
    (hp : a.tmps.getD p undef = .pointer (some ⟨g, 0, none⟩)) (hb : Blk w g t cs) (hu : P.underlying ty = some d) (hd : (match d with | .struct _ | .array _ _ => true | _ => false) = true)
    (hi : (P.info? ty).map (·.size) = some cs.size) (hdf : a.defers = []) (hR : R (.returned (.tuple #[.agg cs, a.tmps.getD q undef])) w) : bodyPost P fn R .ret a w := by
  refine bodyPost_ret (v := .tuple #[.agg cs, a.tmps.getD q undef]) ?_ hdf hR
  have hp' : a.tmps[p]?.getD undef = .pointer (some ⟨g, 0, none⟩) := by simpa using hp
  simp [results, h, hp', asAddr, run_loadVar_row w g t ty cs (0, 0) d hb hu hd hi]

/-- How many of a text's letters are registers. -/
def cntS (l : List UInt8) : Nat := (l.filter fun x => x == 100 || x == 97 || x == 98).length
theorem cntS_snoc (l : List UInt8) (x : UInt8) : cntS (l ++ [x]) = cntS l + if x == 100 || x == 97 || x == 98 then 1 else 0 := by
  unfold cntS
  rw [List.filter_append, List.length_append]
  cases h : (x == 100 || x == 97 || x == 98) <;> simp [h]
theorem cntS_all (op : Int) (h : isOp op = true) : cntS (fldS op).data.toList = manyS op := by
  rw [isOp_iff] at h
  have key : ∀ k : Fin 48, 1 ≤ k.val → cntS (fldS (k.val : Int)).data.toList = manyS (k.val : Int) := by decide +kernel
  have := key ⟨op.toNat, by omega⟩ (by simp; omega)
  simp only [show ((op.toNat : Nat) : Int) = op from by omega] at this
  exact this
theorem take_next (s : ByteArray) (k : Nat) (h : k < s.size) : s.data.toList.take (k + 1) = s.data.toList.take k ++ [s[k]] := by
  rw [List.take_succ_eq_append_getElem (by simpa using h)]; rfl
theorem cntS_le (l : List UInt8) : cntS l ≤ l.length := List.length_filter_le _ _

/-- What reading an instruction from a place on comes to. -/
def RmEnd (bs : List Int) (at' : Nat) (m : Mac) (next : Int) : Prop :=
  match readS (bs.drop at') with
  | some (m', l) => m = m' ∧ next = (bs.length : Int) - l.length
  | none => next = -1
def RmPost (bs : List Int) (at' : Nat) (w : World) (e : Ending) (w' : World) : Prop :=
  ∃ (m : Mac) (next : Int), e = .returned (.tuple #[.agg m.cells.toArray, .int .i64 next]) ∧ Below w.heap.size w w' ∧ RmEnd bs at' m next
theorem RmEnd.noop {bs l : List Int} {at' : Nat} {op : Int} {m : Mac} (hd : bs.drop at' = op :: l) (h : isOp op = false) : RmEnd bs at' m (-1) := by
  unfold RmEnd
  rw [hd, readS_cons, h]
  rfl
theorem RmEnd.noreg {bs l : List Int} {at' : Nat} {op : Int} {m : Mac} (hd : bs.drop at' = op :: l) (h : rregS (manyS op) l = none) : RmEnd bs at' m (-1) := by
  unfold RmEnd
  rw [hd, readS_cons]
  split <;> rename_i hh
  · split at hh
    · rw [h] at hh; cases hh
    · cases hh
  · rfl
theorem RmEnd.regs {bs l rs : List Int} {at' j : Nat} {op : Int} (hd : bs.drop at' = op :: l) (ho : isOp op = true) (hk : shK op = 0) (h : rregS (manyS op) l = some (rs, bs.drop j)) (hj : j ≤ bs.length) : RmEnd bs at' (putRegs op rs 0) j := by
  unfold RmEnd
  rw [hd, readS_cons, if_pos ho, h]
  simp only
  rw [if_pos hk]
  refine ⟨rfl, ?_⟩
  simp only [List.length_drop]
  omega
theorem RmEnd.nonum {bs l rs : List Int} {at' j : Nat} {op : Int} {m : Mac} (hd : bs.drop at' = op :: l) (hk : shK op ≠ 0) (h : rregS (manyS op) l = some (rs, bs.drop j)) (hn : rnS 0 (bs.drop j) = none) : RmEnd bs at' m (-1) := by
  unfold RmEnd
  rw [hd, readS_cons, h]
  simp only
  rw [if_neg hk, hn]
  split <;> rename_i hh
  · split at hh
    · cases hh
    · cases hh
  · first | rfl | trivial
theorem RmEnd.num {bs l rs l' : List Int} {at' j n : Nat} {op : Int} (hd : bs.drop at' = op :: l) (ho : isOp op = true) (hk : shK op ≠ 0) (h : rregS (manyS op) l = some (rs, bs.drop j)) (hn : rnS 0 (bs.drop j) = some (n, l')) : RmEnd bs at' (putRegs op rs (unfoldS n)) ((bs.length : Int) - l'.length) := by
  unfold RmEnd
  rw [hd, readS_cons, if_pos ho, h]
  simp only
  rw [if_neg hk, hn]
  exact ⟨rfl, rfl⟩
theorem RegNow.empty {k : Nat} {bs dn : List Int} (h : RegNow k bs dn [] false) (hk : dn.length < k) : rregS k bs = none := by
  rcases (by omega : k - dn.length = 1 ∨ 2 ≤ k - dn.length) with h1 | h1
  · rcases h.one h1 with ⟨_, e⟩ | ⟨e, _⟩
    · exact e
    · simp at e
  · rcases h.two h1 with ⟨_, e⟩ | ⟨e, _⟩
    · exact e
    · simp at e
theorem RegNow.over {k : Nat} {bs dn l : List Int} {x : Int} (h : RegNow k bs dn (x :: l) false) (hk : k - dn.length = 1) (hx : 15 < x) : rregS k bs = none := by
  rcases h.one hk with ⟨_, e⟩ | ⟨e, _⟩
  · exact e
  · simp at e; omega
theorem RegNow.one' {k : Nat} {bs dn l : List Int} {x : Int} (h : RegNow k bs dn (x :: l) false) (hk : k - dn.length = 1) (hx : ¬ 15 < x) : RegNow k bs (dn ++ [x]) l false := by
  rcases h.one hk with ⟨e, _⟩ | ⟨_, e⟩
  · simp at e; omega
  · refine .inr ⟨rfl, ?_⟩
    simp only [List.headD_cons, List.tail_cons] at e
    rw [e, show k - (dn ++ [x]).length = 0 by simp; omega]
    simp [rregS]
theorem RegNow.two' {k : Nat} {bs dn l : List Int} {x : Int} (h : RegNow k bs dn (x :: l) false) (hk : 2 ≤ k - dn.length) : RegNow k bs (dn ++ [x / 16, x % 16]) l false := by
  have := h.two hk
  simpa using this
theorem RegNow.done {k : Nat} {bs dn left : List Int} (h : RegNow k bs dn left false) (hk : k = dn.length) : rregS k bs = some (dn, left) := by
  rcases h.none_left (by omega) with ⟨e, _⟩ | ⟨_, e⟩
  · cases e
  · exact e
/-- The loop that reads the registers: gk are to come. -/
def rmRel (bs l : List Int) (len : Nat) (op : Int) (w : World) (gr gm : Nat) (gk : Nat) (av rv : Value) (_xv : Value) (wr : World) : Prop :=
  ∃ (p : Nat) (z : Int) (dn : List Int), av = .int .i64 z ∧ z = p ∧ p ≤ len ∧ Hid (OwnInts wr (gm + 1) rv dn) ∧ Hid (dn.length + gk = manyS op) ∧ gk ≤ 3 ∧ dn.length ≤ 3 ∧
    Hid (Blk wr gr 36 #[.int .i64 0, .int .i64 0, .int .i64 0, .int .i64 0, .int .i64 0]) ∧ Hid (Blk wr gm 36 #[.int .i64 op, .int .i64 0, .int .i64 0, .int .i64 0, .int .i64 0]) ∧
    Hid (Below w.heap.size w wr) ∧ Hid (RegNow (manyS op) l dn (bs.drop p) false)
theorem many_le (op : Int) : manyS op ≤ 3 := by rw [← regO_len]; exact regO_le op
end Go.Proofs.YtliampeaecgagaaDoor
