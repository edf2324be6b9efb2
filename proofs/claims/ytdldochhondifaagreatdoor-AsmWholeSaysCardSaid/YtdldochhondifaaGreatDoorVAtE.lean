/-
  Texts of the claim AsmWholeSays (AtD AtE): what each proves stands at its theorems.
  Conditions: as the theorems say.
-/
import Derived.StillTailTactics
import Derived.Test.YtdldochhondifaaGreatDoorVArO
namespace Go.Proofs.YtdldochhondifaaGreatDoor
open Go.RowKit

/-- A row in memory. -/
structure Rw where
  e : TypeId
  size : Nat
  v : Value
  n : Nat
  xs : List Value
def Rw.In (r : Rw) (w : World) (base : Nat) : Prop := w.ownsRow base r.e r.size r.v r.n r.xs
/-- Block bx holds a text and the rows. -/
structure PieM (w : World) (base bx : Nat) (nm : List UInt8) (rows : List Rw) : Prop where
  blk : Blk w bx 63 (Value.string (mkS nm) :: rows.map (·.v)).toArray
  row : ∀ r ∈ rows, r.In w base
  kind : ∀ r ∈ rows, r.e ≠ 63
  apart : ∀ (i j : Nat) (ri rj : Rw), rows[i]? = some ri → rows[j]? = some rj → i ≠ j → ∀ k, ri.v.ownBlock = some k → rj.v.ownBlock ≠ some k
  ge : base ≤ bx
def InPie (bx : Nat) (rows : List Rw) (k : Nat) : Prop := k = bx ∨ ∃ r ∈ rows, r.v.ownBlock = some k
section
variable {w w' : World} {B bx : Nat} {nm : List UInt8} {rows : List Rw}
theorem PieM.lt (h : PieM w B bx nm rows) {k : Nat} (hk : InPie bx rows k) : k < w.heap.size := by
  rcases hk with rfl | ⟨r, hr, hk⟩
  · exact h.blk.lt
  · exact own_lt (h.row r hr) hk
theorem PieM.low (h : PieM w B bx nm rows) {k : Nat} (hk : InPie bx rows k) : B ≤ k := by
  rcases hk with rfl | ⟨r, hr, hk⟩
  · exact h.ge
  · exact own_block_ge (h.row r hr) k hk
theorem PieM.stay (h : PieM w B bx nm rows) (hk : ∀ k, InPie bx rows k → w'.heap[k]? = w.heap[k]?) : PieM w' B bx nm rows :=
  ⟨(hk bx (.inl rfl)).trans h.blk, fun r hr => own_at (h.row r hr) fun k e => hk k (.inr ⟨r, hr, e⟩), h.kind, h.apart, h.ge⟩
theorem PieM.below (h : PieM w B bx nm rows) (hb : Below w.heap.size w w') : PieM w' B bx nm rows := h.stay fun k hk => hb.block k (h.lt hk)
theorem PieM.out (h : PieM w B bx nm rows) {S : Nat → Prop} (hb : OutS S w w') (hS : ∀ k, InPie bx rows k → ¬ S k) : PieM w' B bx nm rows := h.stay fun k hk => hb.block k (h.lt hk) (hS k hk)
theorem PieM.at_ (h : PieM w B bx nm rows) {i : Nat} {r : Rw} (hi : rows[i]? = some r) : r.In w B ∧ r.e ≠ 63 ∧ w.cell? ⟨bx, i + 1, none⟩ = some r.v := by
  have hm := List.mem_of_getElem? hi
  refine ⟨h.row r hm, h.kind r hm, (h.blk.cell (i + 1)).trans ?_⟩
  simp [hi]
/-- A row grows. -/
theorem PieM.add (h : PieM w B bx nm rows) {i : Nat} {r : Rw} (hi : rows[i]? = some r) {xs : List Value} {v' : Value} {H : Nat} (hap : Appended w B r.e r.size r.v (r.n + 1) xs H v' w') (hH : w.heap.size ≤ H) :
    PieM (w'.setCell ⟨bx, i + 1, none⟩ v') B bx nm (rows.set i ⟨r.e, r.size, v', r.n + 1, xs⟩) ∧ OutS (InPie bx rows) w (w'.setCell ⟨bx, i + 1, none⟩ v') ∧ (∀ k, InPie bx (rows.set i ⟨r.e, r.size, v', r.n + 1, xs⟩) k → InPie bx rows k ∨ w.heap.size ≤ k) := by
  have hm := List.mem_of_getElem? hi
  have hil := (List.getElem?_eq_some_iff.1 hi).1
  have hrow := h.row r hm
  have hbx := hap.blk hrow h.blk (h.kind r hm)
  have hc2 : ∀ k, v'.ownBlock = some k → k ≠ bx := fun k hk e => ownBlk_ne hap.own hbx (h.kind r hm) (by rw [← e]; exact hk)
  have hfar : ∀ k, k ≠ bx → (w'.setCell ⟨bx, i + 1, none⟩ v').heap[k]? = w'.heap[k]? := fun k hk => Below.heap_setCell w' ⟨bx, i + 1, none⟩ v' k hk
  have hst : ∀ j rj, rows[j]? = some rj → i ≠ j → ∀ k, rj.v.ownBlock = some k → (w'.setCell ⟨bx, i + 1, none⟩ v').heap[k]? = w.heap[k]? := by
    intro j rj hj hij k hk
    have hjm := List.mem_of_getElem? hj
    have h1 : k ≠ bx := fun e => ownBlk_ne (h.row rj hjm) h.blk (h.kind rj hjm) (by rw [← e]; exact hk)
    have h2 : r.v.ownBlock ≠ some k := fun e => h.apart i j r rj hi hj hij k e hk
    exact (hfar k h1).trans (hap.2.2.1.block k (own_lt (h.row rj hjm) hk) (fun e => h2 e.symm))
  have hget : ∀ j rj, (rows.set i ⟨r.e, r.size, v', r.n + 1, xs⟩)[j]? = some rj → (i = j ∧ rj = ⟨r.e, r.size, v', r.n + 1, xs⟩) ∨ (i ≠ j ∧ rows[j]? = some rj) := by
    intro j rj hj
    rw [List.getElem?_set] at hj
    split at hj
    · rename_i e
      exact .inl ⟨e, (Option.some.inj hj).symm⟩
    · rename_i e
      exact .inr ⟨e, hj⟩
  have hnew : ∀ k, v'.ownBlock = some k → r.v.ownBlock = some k ∨ w.heap.size ≤ k := by
    intro k hk
    rcases hap.2.2.2 with h1 | h1
    · exact .inl (h1 ▸ hk)
    · rw [h1] at hk
      cases hk
      exact .inr hH
  refine ⟨⟨?_, ?_, ?_, ?_, h.ge⟩, ?_, ?_⟩
  · have := hbx.set_ (i + 1) v'
    have e : ((Value.string (mkS nm) :: rows.map (·.v)).toArray.setIfInBounds (i + 1) v') = (Value.string (mkS nm) :: (rows.set i ⟨r.e, r.size, v', r.n + 1, xs⟩).map (·.v)).toArray := by
      rw [List.setIfInBounds_toArray, List.set_cons_succ, List.map_set]
    rw [e] at this
    exact this
  · intro rj hr
    obtain ⟨j, hj⟩ := List.mem_iff_getElem?.1 hr
    rcases hget j rj hj with ⟨_, rfl⟩ | ⟨hij, hj⟩
    · exact own_at hap.own fun k hk => hfar k (hc2 k hk)
    · exact own_at (h.row rj (List.mem_of_getElem? hj)) (hst j rj hj hij)
  · intro rj hr
    obtain ⟨j, hj⟩ := List.mem_iff_getElem?.1 hr
    rcases hget j rj hj with ⟨_, rfl⟩ | ⟨hij, hj⟩
    · exact h.kind r hm
    · exact h.kind rj (List.mem_of_getElem? hj)
  · intro a b ra rb ha hb hab k hk hk'
    rcases hget a ra ha with ⟨rfl, rfl⟩ | ⟨hia, ha⟩
    · rcases hget b rb hb with ⟨rfl, rfl⟩ | ⟨hib, hb⟩
      · exact hab rfl
      · rcases hnew k hk with e | e
        · exact h.apart i b r rb hi hb hib k e hk'
        · have := own_lt (h.row rb (List.mem_of_getElem? hb)) hk'
          omega
    · rcases hget b rb hb with ⟨rfl, rfl⟩ | ⟨hib, hb⟩
      · rcases hnew k hk' with e | e
        · exact h.apart a i ra r ha hi (fun e => hia e.symm) k hk e
        · have := own_lt (h.row ra (List.mem_of_getElem? ha)) hk
          omega
      · exact h.apart a b ra rb ha hb hab k hk hk'
  · exact (outS_grown hap.2.2.1 fun k e => .inr ⟨r, hm, e⟩).trans (outS_set (S := fun k => k = bx) w' bx (i + 1) v' rfl) fun i _ e => .inl e
  · rintro k (e | ⟨rj, hr, hk⟩)
    · exact .inl (.inl e)
    · obtain ⟨j, hj⟩ := List.mem_iff_getElem?.1 hr
      rcases hget j rj hj with ⟨_, rfl⟩ | ⟨hij, hj⟩
      · rcases hnew k hk with e | e
        · exact .inl (.inr ⟨r, hm, e⟩)
        · exact .inr e
      · exact .inl (.inr ⟨rj, List.mem_of_getElem? hj, hk⟩)
/-- A cell of a row is written. -/
theorem PieM.put (h : PieM w B bx nm rows) {i g c : Nat} {r : Rw} (hi : rows[i]? = some r) (hv : r.v = .slice (some ⟨g, 0, none⟩) r.n c) (o : Nat) (u : Value) :
    PieM (w.setCell ⟨g, o, none⟩ u) B bx nm (rows.set i ⟨r.e, r.size, r.v, r.n, r.xs.set o u⟩) ∧ OutS (InPie bx rows) w (w.setCell ⟨g, o, none⟩ u) := by
  have hm := List.mem_of_getElem? hi
  have hil := (List.getElem?_eq_some_iff.1 hi).1
  have hrow := h.row r hm
  have hg : r.v.ownBlock = some g := by rw [hv]; rfl
  have hgx : bx ≠ g := fun e => ownBlk_ne hrow h.blk (h.kind r hm) (by rw [e]; exact hg)
  have hfar : ∀ k, k ≠ g → (w.setCell ⟨g, o, none⟩ u).heap[k]? = w.heap[k]? := fun k hk => Below.heap_setCell w ⟨g, o, none⟩ u k hk
  have hget : ∀ j rj, (rows.set i ⟨r.e, r.size, r.v, r.n, r.xs.set o u⟩)[j]? = some rj → (i = j ∧ rj = ⟨r.e, r.size, r.v, r.n, r.xs.set o u⟩) ∨ (i ≠ j ∧ rows[j]? = some rj) := by
    intro j rj hj
    rw [List.getElem?_set] at hj
    split at hj
    · rename_i e
      exact .inl ⟨e, (Option.some.inj hj).symm⟩
    · rename_i e
      exact .inr ⟨e, hj⟩
  have hval : ∀ (j : Nat) (rj : Rw), (rows.set i ⟨r.e, r.size, r.v, r.n, r.xs.set o u⟩)[j]? = some rj → ∃ r' : Rw, rows[j]? = some r' ∧ r'.v = rj.v ∧ r'.e = rj.e := by
    intro j rj hj
    rcases hget j rj hj with ⟨rfl, rfl⟩ | ⟨_, hj⟩
    · exact ⟨r, hi, rfl, rfl⟩
    · exact ⟨rj, hj, rfl, rfl⟩
  refine ⟨⟨?_, ?_, ?_, ?_, h.ge⟩, outS_set w g o u (.inr ⟨r, hm, hg⟩)⟩
  · have e : (rows.set i ⟨r.e, r.size, r.v, r.n, r.xs.set o u⟩).map (·.v) = rows.map (·.v) := by
      rw [List.map_set]
      apply List.ext_getElem?
      intro j
      rw [List.getElem?_set]
      split
      · rename_i e
        subst e
        rw [List.getElem?_map, hi, if_pos (by rw [List.length_map]; exact hil)]
        rfl
      · rfl
    rw [e]
    exact (hfar bx hgx).trans h.blk
  · intro rj hr
    obtain ⟨j, hj⟩ := List.mem_iff_getElem?.1 hr
    rcases hget j rj hj with ⟨_, rfl⟩ | ⟨hij, hj⟩
    · have h1 : w.ownsRow B r.e r.size (.slice (some ⟨g, 0, none⟩) r.n c) r.n r.xs := by rw [← hv]; exact hrow
      have h2 := (World.ownsRow.stored h1 o u).1
      rw [← hv] at h2
      exact h2
    · exact own_at (h.row rj (List.mem_of_getElem? hj)) fun k hk => hfar k (fun e => h.apart i j r rj hi hj hij k (by rw [e]; exact hg) hk)
  · intro rj hr
    obtain ⟨j, hj⟩ := List.mem_iff_getElem?.1 hr
    obtain ⟨r', h1, _, h3⟩ := hval j rj hj
    rw [← h3]
    exact h.kind r' (List.mem_of_getElem? h1)
  · intro a b ra rb ha hb hab k
    obtain ⟨ra', a1, a2, _⟩ := hval a ra ha
    obtain ⟨rb', b1, b2, _⟩ := hval b rb hb
    rw [← a2, ← b2]
    exact h.apart a b ra' rb' a1 b1 hab k
end
def rInts (v : Value) (xs : List Int) : Rw := ⟨3, 1, v, xs.length, xs.map (Value.int .i64)⟩
def rMacs (v : Value) (ms : List Mac) : Rw := ⟨39, 5, v, ms.length, cellsS ms⟩
def rStrs (v : Value) (ss : List (List UInt8)) : Rw := ⟨9, 1, v, ss.length, ss.map fun l => Value.string (mkS l)⟩
/-- The values of a piece's rows. -/
structure Pv where
  c : Value
  l : Value
  p : Value
  g : Value
  k : Value
def pieRows (ms : List Mac) (labs places goals : List Int) (calls : List (List UInt8)) (v : Pv) : List Rw := [rMacs v.c ms, rInts v.l labs, rInts v.p places, rInts v.g goals, rStrs v.k calls]
def goalI (x : Ins) : Int := x.goal.getD (-1)
def callI (x : Ins) : List UInt8 := x.call.getD []
def labsI (labs : List (Int × Nat)) : List Int := labs.map fun x => x.1
def placesI (labs : List (Int × Nat)) : List Int := labs.map fun x => (x.2 : Int)
/-- A piece that has read so much. -/
def Pie (w : World) (base bx : Nat) (nm : List UInt8) (st : PSt) (v : Pv) : Prop :=
  PieM w base bx nm (pieRows (st.code.map fun x => x.m) (labsI st.labs) (placesI st.labs) (st.code.map goalI) (st.code.map callI) v)
theorem Pie.new (w : World) (base : Nat) (hb : base ≤ w.heap.size) (nm : List UInt8) : Pie (w.alloc (.cells #[.string (mkS nm), .slice none 0 0, .slice none 0 0, .slice none 0 0, .slice none 0 0, .slice none 0 0] 63)) base w.heap.size nm ⟨[], []⟩ ⟨.slice none 0 0, .slice none 0 0, .slice none 0 0, .slice none 0 0, .slice none 0 0⟩ := by
  have hk : ∀ r ∈ (pieRows [] [] [] [] [] ⟨.slice none 0 0, .slice none 0 0, .slice none 0 0, .slice none 0 0, .slice none 0 0⟩ : List Rw), (∀ w, r.In w base) ∧ r.e ≠ 63 ∧ r.v = .slice none 0 0 := by
    intro r hr
    simp only [pieRows, List.mem_cons, List.not_mem_nil, or_false] at hr
    rcases hr with rfl | rfl | rfl | rfl | rfl
    · exact ⟨fun w => World.ownsRow_nil w base _ _, by decide, rfl⟩
    · exact ⟨fun w => World.ownsRow_nil w base _ _, by decide, rfl⟩
    · exact ⟨fun w => World.ownsRow_nil w base _ _, by decide, rfl⟩
    · exact ⟨fun w => World.ownsRow_nil w base _ _, by decide, rfl⟩
    · exact ⟨fun w => World.ownsRow_nil w base _ _, by decide, rfl⟩
  refine ⟨Blk.new _ _ _, fun r hr => (hk r hr).1 _, fun r hr => (hk r hr).2.1, fun i j ri rj hi _ _ k h => ?_, hb⟩
  rw [(hk ri (List.mem_of_getElem? hi)).2.2] at h
  cases h
end Go.Proofs.YtdldochhondifaaGreatDoor
namespace Go.Proofs.YtdldochhondifaaGreatDoor
open Go.RowKit
attribute [local go_sem] Oper.semAt_some

/-- A block of the piece. -/
def InV (bx : Nat) (v : Pv) (k : Nat) : Prop := k = bx ∨ v.c.ownBlock = some k ∨ v.l.ownBlock = some k ∨ v.p.ownBlock = some k ∨ v.g.ownBlock = some k ∨ v.k.ownBlock = some k
theorem inPie_iff {bx : Nat} {ms : List Mac} {labs places goals : List Int} {calls : List (List UInt8)} {v : Pv} {k : Nat} : InPie bx (pieRows ms labs places goals calls v) k ↔ InV bx v k := by
  unfold InPie InV pieRows
  simp [rMacs, rInts, rStrs]
/-- A piece in whose rows the goal and the call of an instruction under way lie; the instruction lies in block mb. -/
def Fld (w : World) (base bx : Nat) (nm : List UInt8) (st : PSt) (v : Pv) (mb : Nat) (x : Ins) : Prop :=
  PieM w base bx nm (pieRows (st.code.map fun x => x.m) (labsI st.labs) (placesI st.labs) (st.code.map goalI ++ [goalI x]) (st.code.map callI ++ [callI x]) v) ∧ Blk w mb 39 x.m.cells.toArray ∧ ¬ InV bx v mb
/-- What field leaves. -/
def FieldPost (w : World) (base bx : Nat) (nm : List UInt8) (st : PSt) (v : Pv) (mb : Nat) (r : Option Ins) (e : Ending) (w' : World) : Prop :=
  e = .returned (.bool r.isSome) ∧ OutS (fun k => InV bx v k ∨ k = mb) w w' ∧ ∀ y, r = some y → Fld w' base bx nm st v mb y
section
variable {base bx mb : Nat} {nm : List UInt8} {st : PSt} {v : Pv} {x : Ins} {w : World}
theorem Fld.setM (h : Fld w base bx nm st v mb x) (o : Nat) (u : Value) {y : Ins} (hy : y.m.cells.toArray = x.m.cells.toArray.setIfInBounds o u) (hg : y.goal = x.goal) (hk : y.call = x.call) :
    Fld (w.setCell ⟨mb, o, none⟩ u) base bx nm st v mb y ∧ OutS (fun k => InV bx v k ∨ k = mb) w (w.setCell ⟨mb, o, none⟩ u) := by
  have ho := outS_set (S := fun k => k = mb) w mb o u rfl
  refine ⟨⟨?_, ?_, h.2.2⟩, ho.wider fun i _ e => .inr e⟩
  · rw [show goalI y = goalI x from by unfold goalI; rw [hg], show callI y = callI x from by unfold callI; rw [hk]]
    exact h.1.out ho fun k hk e => h.2.2 (e ▸ inPie_iff.1 hk)
  · rw [hy]
    exact h.2.1.set_ o u
theorem set_last {α β : Type} (l : List α) (a b : α) (f : α → β) (n : Nat) (hn : l.length = n) : ((l ++ [a]).map f).set n (f b) = (l ++ [b]).map f := by
  subst hn
  rw [List.map_append, List.map_append, List.set_append_right _ _ (by simp)]
  simp
theorem Fld.setG (h : Fld w base bx nm st v mb x) {gb gc : Nat} (hv : v.g = .slice (some ⟨gb, 0, none⟩) (st.code.length + 1) gc) (n : Int) {y : Ins} (hm : y.m = x.m) (hg : goalI y = n) (hk : y.call = x.call) :
    Fld (w.setCell ⟨gb, st.code.length, none⟩ (.int .i64 n)) base bx nm st v mb y ∧ OutS (fun k => InV bx v k ∨ k = mb) w (w.setCell ⟨gb, st.code.length, none⟩ (.int .i64 n)) := by
  have hl : (st.code.map goalI ++ [goalI x]).length = st.code.length + 1 := by simp
  have hp := h.1.put (i := 3) (g := gb) (c := gc) (r := rInts v.g (st.code.map goalI ++ [goalI x])) rfl (by rw [show (rInts v.g (st.code.map goalI ++ [goalI x])).n = st.code.length + 1 from hl]; exact hv) st.code.length (.int .i64 n)
  have hgb : InV bx v gb := .inr (.inr (.inr (.inr (.inl (by rw [hv]; rfl)))))
  refine ⟨⟨?_, ?_, h.2.2⟩, (outS_set (S := fun k => k = gb) w gb st.code.length _ rfl).wider fun i _ e => .inl (e ▸ hgb)⟩
  · have e : (rInts v.g (st.code.map goalI ++ [goalI x])).xs.set st.code.length (.int .i64 n) = (rInts v.g (st.code.map goalI ++ [goalI y])).xs := by
      rw [hg]
      exact set_last _ _ _ _ _ (by simp)
    rw [e] at hp
    rw [show callI y = callI x from by unfold callI; rw [hk]]
    have e2 : (rInts v.g (st.code.map goalI ++ [goalI x])).n = (rInts v.g (st.code.map goalI ++ [goalI y])).n := by simp [rInts]
    rw [e2] at hp
    exact hp.1
  · rw [hm]
    exact h.2.1.far (p := ⟨gb, st.code.length, none⟩) (fun e => h.2.2 (by rw [e]; exact hgb)) _
theorem Fld.setK (h : Fld w base bx nm st v mb x) {gb gc : Nat} (hv : v.k = .slice (some ⟨gb, 0, none⟩) (st.code.length + 1) gc) (s : List UInt8) {y : Ins} (hm : y.m = x.m) (hg : y.goal = x.goal) (hk : callI y = s) :
    Fld (w.setCell ⟨gb, st.code.length, none⟩ (.string (mkS s))) base bx nm st v mb y ∧ OutS (fun k => InV bx v k ∨ k = mb) w (w.setCell ⟨gb, st.code.length, none⟩ (.string (mkS s))) := by
  have hl : (st.code.map callI ++ [callI x]).length = st.code.length + 1 := by simp
  have hp := h.1.put (i := 4) (g := gb) (c := gc) (r := rStrs v.k (st.code.map callI ++ [callI x])) rfl (by rw [show (rStrs v.k (st.code.map callI ++ [callI x])).n = st.code.length + 1 from hl]; exact hv) st.code.length (.string (mkS s))
  have hgb : InV bx v gb := .inr (.inr (.inr (.inr (.inr (by rw [hv]; rfl)))))
  refine ⟨⟨?_, ?_, h.2.2⟩, (outS_set (S := fun k => k = gb) w gb st.code.length _ rfl).wider fun i _ e => .inl (e ▸ hgb)⟩
  · have e : (rStrs v.k (st.code.map callI ++ [callI x])).xs.set st.code.length (.string (mkS s)) = (rStrs v.k (st.code.map callI ++ [callI y])).xs := by
      rw [hk]
      exact set_last (st.code.map callI) (callI x) s (fun l => Value.string (mkS l)) _ (by simp)
    rw [e] at hp
    rw [show goalI y = goalI x from by unfold goalI; rw [hg]]
    have e2 : (rStrs v.k (st.code.map callI ++ [callI x])).n = (rStrs v.k (st.code.map callI ++ [callI y])).n := by simp [rStrs]
    rw [e2] at hp
    exact hp.1
  · rw [hm]
    exact h.2.1.far (p := ⟨gb, st.code.length, none⟩) (fun e => h.2.2 (by rw [e]; exact hgb)) _
theorem Fld.formG (h : Fld w base bx nm st v mb x) : ∃ gb gc, v.g = .slice (some ⟨gb, 0, none⟩) (st.code.length + 1) gc ∧ w.cell? ⟨bx, 4, none⟩ = some v.g ∧ (∃ u, w.cell? ⟨gb, st.code.length, none⟩ = some u) ∧ w.frozen? ⟨gb, st.code.length, none⟩ = false := by
  obtain ⟨h1, _, h3⟩ := h.1.at_ (i := 3) rfl
  have h1' : w.ownsRow base 3 1 v.g (st.code.length + 1) ((st.code.map goalI ++ [goalI x]).map (Value.int .i64)) := by
    have e : (st.code.map goalI ++ [goalI x]).length = st.code.length + 1 := by simp
    have h2 : w.ownsRow base 3 1 v.g (st.code.map goalI ++ [goalI x]).length ((st.code.map goalI ++ [goalI x]).map (Value.int .i64)) := h1
    rw [e] at h2
    exact h2
  obtain ⟨gb, gc, hv, _⟩ := h1'.form (by omega)
  rw [hv] at h1'
  refine ⟨gb, gc, hv, h3, ⟨_, (h1'.cellAt st.code.length (by omega)).trans (List.getElem?_eq_getElem (by simp))⟩, h1'.frozenAt st.code.length⟩
theorem Fld.formK (h : Fld w base bx nm st v mb x) : ∃ gb gc, v.k = .slice (some ⟨gb, 0, none⟩) (st.code.length + 1) gc ∧ w.cell? ⟨bx, 5, none⟩ = some v.k ∧ (∃ u, w.cell? ⟨gb, st.code.length, none⟩ = some u) ∧ w.frozen? ⟨gb, st.code.length, none⟩ = false := by
  obtain ⟨h1, _, h3⟩ := h.1.at_ (i := 4) rfl
  have h1' : w.ownsRow base 9 1 v.k (st.code.length + 1) ((st.code.map callI ++ [callI x]).map fun l => Value.string (mkS l)) := by
    have e : (st.code.map callI ++ [callI x]).length = st.code.length + 1 := by simp
    have h2 : w.ownsRow base 9 1 v.k (st.code.map callI ++ [callI x]).length ((st.code.map callI ++ [callI x]).map fun l => Value.string (mkS l)) := h1
    rw [e] at h2
    exact h2
  obtain ⟨gb, gc, hv, _⟩ := h1'.form (by omega)
  rw [hv] at h1'
  refine ⟨gb, gc, hv, h3, ⟨_, (h1'.cellAt st.code.length (by omega)).trans (List.getElem?_eq_getElem (by simp))⟩, h1'.frozenAt st.code.length⟩
end
section
variable {base bx mb : Nat} {nm : List UInt8} {st : PSt} {v : Pv}
set_option maxRecDepth 100000 in
set_option maxHeartbeats 4000000 in
theorem field_dst (nb : Bool) (x : Ins) (s : List UInt8) (hs : s.length ≤ 1000000) (w : World) (hF : Fld w base bx nm st v mb x) :
    Calls Tryz.prog 73 #[.pointer (some ⟨bx, 0, none⟩), .pointer (some ⟨mb, 0, none⟩), .int .u8 100, .string (mkS s), .bool nb] w (FieldPost w base bx nm st v mb (fieldP nb x 100 s)) := by
  have HR := Lib.hid (readReg_any s (by omega) w)
  have HF := Lib.hid hF
  have m1 : w.cell? ⟨mb, 1, none⟩ = some (.int .i64 x.m.dst) := hF.2.1.cell 1
  have f1 := hF.2.1.frozen 1
  have HE : Hid (fieldP nb x 100 s = (regI s).map fun n => ⟨{ x.m with dst := n }, x.goal, x.call⟩) := Lib.hid (by unfold fieldP; rw [if_pos rfl])
  clear hF
  go_enter Tryz.func73, Tryz.ntmps73
  go_wp2_with fail
  refine HR.out.mono ?_
  rintro e w1 ⟨⟨n, ok, hn, rfl, hd⟩, rfl⟩
  have HD := Lib.hid hd
  obtain ⟨h1, h2⟩ := HF.out.setM 1 (.int .i64 n) (y := ⟨{ x.m with dst := n }, x.goal, x.call⟩) rfl rfl rfl
  have HS := Lib.hid (And.intro h1 h2)
  clear hd h1 h2 HR
  go_wp2_with fail
  go_ret
  cases ok with
  | false => exact ⟨by rw [HE.out, HD.out]; rfl, HS.out.2, fun y hy => by rw [HE.out, HD.out] at hy; cases hy⟩
  | true => exact ⟨by rw [HE.out, HD.out]; rfl, HS.out.2, fun y hy => by rw [HE.out, HD.out] at hy; cases hy; exact HS.out.1⟩
set_option maxRecDepth 100000 in
set_option maxHeartbeats 4000000 in
theorem field_a (nb : Bool) (x : Ins) (s : List UInt8) (hs : s.length ≤ 1000000) (w : World) (hF : Fld w base bx nm st v mb x) :
    Calls Tryz.prog 73 #[.pointer (some ⟨bx, 0, none⟩), .pointer (some ⟨mb, 0, none⟩), .int .u8 97, .string (mkS s), .bool nb] w (FieldPost w base bx nm st v mb (fieldP nb x 97 s)) := by
  have HR := Lib.hid (readReg_any s (by omega) w)
  have HF := Lib.hid hF
  have m1 : w.cell? ⟨mb, 2, none⟩ = some (.int .i64 x.m.a) := hF.2.1.cell 2
  have f1 := hF.2.1.frozen 2
  have HE : Hid (fieldP nb x 97 s = (regI s).map fun n => ⟨{ x.m with a := n }, x.goal, x.call⟩) := Lib.hid (by unfold fieldP; rw [if_neg (by decide)]; rw [if_pos rfl])
  clear hF
  go_enter Tryz.func73, Tryz.ntmps73
  go_wp2_with fail
  refine HR.out.mono ?_
  rintro e w1 ⟨⟨n, ok, hn, rfl, hd⟩, rfl⟩
  have HD := Lib.hid hd
  obtain ⟨h1, h2⟩ := HF.out.setM 2 (.int .i64 n) (y := ⟨{ x.m with a := n }, x.goal, x.call⟩) rfl rfl rfl
  have HS := Lib.hid (And.intro h1 h2)
  clear hd h1 h2 HR
  go_wp2_with fail
  go_ret
  cases ok with
  | false => exact ⟨by rw [HE.out, HD.out]; rfl, HS.out.2, fun y hy => by rw [HE.out, HD.out] at hy; cases hy⟩
  | true => exact ⟨by rw [HE.out, HD.out]; rfl, HS.out.2, fun y hy => by rw [HE.out, HD.out] at hy; cases hy; exact HS.out.1⟩
set_option maxRecDepth 100000 in
set_option maxHeartbeats 4000000 in
theorem field_b (nb : Bool) (x : Ins) (s : List UInt8) (hs : s.length ≤ 1000000) (w : World) (hF : Fld w base bx nm st v mb x) :
    Calls Tryz.prog 73 #[.pointer (some ⟨bx, 0, none⟩), .pointer (some ⟨mb, 0, none⟩), .int .u8 98, .string (mkS s), .bool nb] w (FieldPost w base bx nm st v mb (fieldP nb x 98 s)) := by
  have HR := Lib.hid (readReg_any s (by omega) w)
  have HF := Lib.hid hF
  have m1 : w.cell? ⟨mb, 3, none⟩ = some (.int .i64 x.m.b) := hF.2.1.cell 3
  have f1 := hF.2.1.frozen 3
  have HE : Hid (fieldP nb x 98 s = (regI s).map fun n => ⟨{ x.m with b := n }, x.goal, x.call⟩) := Lib.hid (by unfold fieldP; rw [if_neg (by decide)]; rw [if_neg (by decide)]; rw [if_pos rfl])
  clear hF
  go_enter Tryz.func73, Tryz.ntmps73
  go_wp2_with fail
  refine HR.out.mono ?_
  rintro e w1 ⟨⟨n, ok, hn, rfl, hd⟩, rfl⟩
  have HD := Lib.hid hd
  obtain ⟨h1, h2⟩ := HF.out.setM 3 (.int .i64 n) (y := ⟨{ x.m with b := n }, x.goal, x.call⟩) rfl rfl rfl
  have HS := Lib.hid (And.intro h1 h2)
  clear hd h1 h2 HR
  go_wp2_with fail
  go_ret
  cases ok with
  | false => exact ⟨by rw [HE.out, HD.out]; rfl, HS.out.2, fun y hy => by rw [HE.out, HD.out] at hy; cases hy⟩
  | true => exact ⟨by rw [HE.out, HD.out]; rfl, HS.out.2, fun y hy => by rw [HE.out, HD.out] at hy; cases hy; exact HS.out.1⟩
/-- Another letter. -/
def OthC (c : UInt8) : Prop := c ≠ 100 ∧ c ≠ 97 ∧ c ≠ 98 ∧ c ≠ 116
theorem othC_eq {c : UInt8} {ci : Int} (h : OthC c) (e : ci = (c.toNat : Int)) : (ci == 100) = false ∧ (ci == 97) = false ∧ (ci == 98) = false ∧ (ci == 116) = false := by
  obtain ⟨h1, h2, h3, h4⟩ := h
  subst e
  exact ⟨byte_ne (k := 100) h1, byte_ne (k := 97) h2, byte_ne (k := 98) h3, byte_ne (k := 116) h4⟩
set_option maxRecDepth 100000 in
set_option maxHeartbeats 4000000 in
theorem field_num (nb : Bool) (x : Ins) (c : UInt8) (ci : Int) (hc : OthC c) (hci : ci = (c.toNat : Int)) (hr : ¬ (c = 114 ∧ nb = true)) (s : List UInt8) (hs : s.length ≤ 1000000) (w : World) (hF : Fld w base bx nm st v mb x) :
    Calls Tryz.prog 73 #[.pointer (some ⟨bx, 0, none⟩), .pointer (some ⟨mb, 0, none⟩), .int .u8 ci, .string (mkS s), .bool nb] w (FieldPost w base bx nm st v mb (fieldP nb x c s)) := by
  have HR := Lib.hid (readReg_any s (by omega) w)
  have HN := Lib.hid (ReadDigits_any s (by omega) w)
  have HF := Lib.hid hF
  have m1 : w.cell? ⟨mb, 4, none⟩ = some (.int .i64 x.m.n) := hF.2.1.cell 4
  have f1 := hF.2.1.frozen 4
  have HE : Hid (fieldP nb x c s = (numI s).map fun n => ⟨{ x.m with n := n }, x.goal, x.call⟩) := Lib.hid (by unfold fieldP; rw [if_neg hc.1, if_neg hc.2.1, if_neg hc.2.2.1, if_neg hc.2.2.2, if_neg hr])
  obtain ⟨e1, e2, e3, e4⟩ := othC_eq hc hci
  have Hr : Hid ((ci == 114) = true → nb = false) := Lib.hid (fun h => by
    rw [beq_iff_eq, hci] at h
    have h1 : c = 114 := UInt8.toNat_inj.1 (by rw [show (114 : UInt8).toNat = 114 from rfl]; omega)
    cases hb : nb with
    | false => rfl
    | true => exact absurd ⟨h1, hb⟩ hr)
  clear hF hc hci hr
  cases h114 : (ci == 114) with
  | true =>
    obtain rfl := Hr.out h114
    go_enter Tryz.func73, Tryz.ntmps73
    go_wp2_with fail
    refine HR.out.mono ?_
    rintro e w1 ⟨⟨n, ok, hn, rfl, hd⟩, rfl⟩
    clear hd HR hn
    go_wp2_with fail
    refine HN.out.mono ?_
    rintro e w2 ⟨⟨n, ok, hn, rfl, hd⟩, rfl⟩
    have HD := Lib.hid hd
    obtain ⟨h1, h2⟩ := HF.out.setM 4 (.int .i64 n) (y := ⟨{ x.m with n := n }, x.goal, x.call⟩) rfl rfl rfl
    have HS := Lib.hid (And.intro h1 h2)
    clear hd h1 h2 HN
    go_wp2_with fail
    go_ret
    cases ok with
    | false => exact ⟨by rw [HE.out, HD.out]; rfl, HS.out.2, fun y hy => by rw [HE.out, HD.out] at hy; cases hy⟩
    | true => exact ⟨by rw [HE.out, HD.out]; rfl, HS.out.2, fun y hy => by rw [HE.out, HD.out] at hy; cases hy; exact HS.out.1⟩
  | false =>
    go_enter Tryz.func73, Tryz.ntmps73
    go_wp2_with fail
    refine HR.out.mono ?_
    rintro e w1 ⟨⟨n, ok, hn, rfl, hd⟩, rfl⟩
    clear hd HR hn
    go_wp2_with fail
    refine HN.out.mono ?_
    rintro e w2 ⟨⟨n, ok, hn, rfl, hd⟩, rfl⟩
    have HD := Lib.hid hd
    obtain ⟨h1, h2⟩ := HF.out.setM 4 (.int .i64 n) (y := ⟨{ x.m with n := n }, x.goal, x.call⟩) rfl rfl rfl
    have HS := Lib.hid (And.intro h1 h2)
    clear hd h1 h2 HN
    go_wp2_with fail
    go_ret
    cases ok with
    | false => exact ⟨by rw [HE.out, HD.out]; rfl, HS.out.2, fun y hy => by rw [HE.out, HD.out] at hy; cases hy⟩
    | true => exact ⟨by rw [HE.out, HD.out]; rfl, HS.out.2, fun y hy => by rw [HE.out, HD.out] at hy; cases hy; exact HS.out.1⟩
set_option maxRecDepth 100000 in
set_option maxHeartbeats 4000000 in
theorem field_goal (nb : Bool) (x : Ins) (s : List UInt8) (hs : s.length ≤ 1000000) (w : World) (hF : Fld w base bx nm st v mb x) (hl : st.code.length ≤ 1000000) :
    Calls Tryz.prog 73 #[.pointer (some ⟨bx, 0, none⟩), .pointer (some ⟨mb, 0, none⟩), .int .u8 116, .string (mkS s), .bool nb] w (FieldPost w base bx nm st v mb (fieldP nb x 116 s)) := by
  have HR := Lib.hid (readReg_any s (by omega) w)
  have HL := Lib.hid (readLabel_any s (by omega) w)
  have HF := Lib.hid hF
  obtain ⟨gb, gc, hv, m4, ⟨u, mu⟩, fz⟩ := hF.formG
  have HV := Lib.hid hv
  rw [hv] at m4
  obtain ⟨n, hn⟩ : ∃ n, st.code.length = n := ⟨_, rfl⟩
  have Hn := Lib.hid hn
  rw [hn] at m4 mu fz hl
  have HE : Hid (fieldP nb x 116 s = (labI s).map fun n => ⟨x.m, some n, x.call⟩) := Lib.hid (by unfold fieldP; rw [if_neg (by decide), if_neg (by decide), if_neg (by decide), if_pos rfl])
  clear hF hv hn
  go_enter Tryz.func73, Tryz.ntmps73
  go_wp2_with fail
  refine HR.out.mono ?_
  rintro e w1 ⟨⟨k, ok, hk, rfl, hd⟩, rfl⟩
  clear hd HR hk
  go_wp2_with fail
  refine wp_region_still_tail 12 (by kernel_rfl) (by kernel_rfl) ?_
  simp only [List.take_succ_cons, List.take_zero, List.drop_succ_cons, List.drop_zero]
  iterate 11 still_step
  still_call ((readLabel_any s (by omega) _).mono fun e w' h => by obtain ⟨rfl, rfl⟩ := h; exact ⟨rfl, rfl⟩)
  refine wpStill_nil ?_
  change wpList _ _ _ _ _ w.drew
  have HF2 : Hid (Fld w.drew base bx nm st v mb x) := Lib.hid ⟨HF.out.1.stay fun _ _ => rfl, HF.out.2.1, HF.out.2.2⟩
  have m4' : w.drew.cell? ⟨bx, 4, none⟩ = some (.slice (some ⟨gb, 0, none⟩) (n + 1) gc) := m4
  have mu' : w.drew.cell? ⟨gb, n, none⟩ = some u := mu
  have fz' : w.drew.frozen? ⟨gb, n, none⟩ = false := fz
  have HO2 : Hid (OutS (fun k => InV bx v k ∨ k = mb) w w.drew) := Lib.hid ⟨rfl, rfl, rfl, Nat.le_refl _, fun _ _ _ => rfl⟩
  obtain ⟨l, hl'⟩ : ∃ l, labN s = l := ⟨_, rfl⟩
  have hlab := readLabel_any s (by omega)
  rw [hl'] at hlab ⊢
  have HLab := Lib.hid hlab
  have Hl := Lib.hid hl'
  obtain ⟨a1, a2⟩ := HF2.out.setG (by rw [HV.out]) l (y := ⟨x.m, some l, x.call⟩) rfl rfl rfl
  rw [Hn.out] at a1 a2
  have HA := Lib.hid (And.intro a1 (HO2.out.trans a2 fun _ _ h => h))
  clear m4 mu fz hl' hlab HL a1 a2
  generalize w.drew = W2 at *
  have n0 : (0 : Int) ≤ (n : Int) := Int.natCast_nonneg n
  have n1 : (n : Int) < (n : Int) + 1 := by omega
  go_wp2_with fail
  refine (HLab.out _).mono ?_
  rintro e w1 ⟨rfl, rfl⟩
  go_wp2_with fail
  go_ret
  cases hlab : labI s with
  | none =>
    have hl1 : l = -1 := by rw [← Hl.out]; unfold labN; rw [hlab]; rfl
    subst hl1
    exact ⟨by rw [HE.out, hlab]; rfl, HA.out.2, fun y hy => by rw [HE.out, hlab] at hy; cases hy⟩
  | some m =>
    have hl1 : l = m := by rw [← Hl.out]; unfold labN; rw [hlab]; rfl
    subst hl1
    have h0 := (labI_pos hlab).2
    refine ⟨?_, HA.out.2, fun y hy => by rw [HE.out, hlab] at hy; cases hy; exact HA.out.1⟩
    rw [HE.out, hlab]
    exact ret_bool (decide_eq_true h0)
set_option maxRecDepth 100000 in
set_option maxHeartbeats 4000000 in
theorem field_call (x : Ins) (s : List UInt8) (hs : s.length ≤ 1000000) (w : World) (hF : Fld w base bx nm st v mb x) (hl : st.code.length ≤ 1000000) :
    Calls Tryz.prog 73 #[.pointer (some ⟨bx, 0, none⟩), .pointer (some ⟨mb, 0, none⟩), .int .u8 114, .string (mkS s), .bool true] w (FieldPost w base bx nm st v mb (fieldP true x 114 s)) := by
  have HR := Lib.hid (readReg_any s (by omega) w)
  have HF := Lib.hid hF
  obtain ⟨gb, gc, hv, m4, ⟨u, mu⟩, fz⟩ := hF.formK
  have HV := Lib.hid hv
  rw [hv] at m4
  obtain ⟨n, hn⟩ : ∃ n, st.code.length = n := ⟨_, rfl⟩
  have Hn := Lib.hid hn
  rw [hn] at m4 mu fz hl
  have HE : Hid (fieldP true x 114 s = if nameS (mkS s) = true then some ⟨x.m, x.goal, some s⟩ else none) := Lib.hid (by unfold fieldP; rw [if_neg (by decide), if_neg (by decide), if_neg (by decide), if_neg (by decide), if_pos ⟨rfl, rfl⟩])
  clear hF hv hn
  go_enter Tryz.func73, Tryz.ntmps73
  go_wp2_with fail
  refine HR.out.mono ?_
  rintro e w1 ⟨⟨k, ok, hk, rfl, hd⟩, rfl⟩
  clear hd HR hk
  go_wp2_with fail
  refine wp_region_still_tail 11 (by kernel_rfl) (by kernel_rfl) ?_
  simp only [List.take_succ_cons, List.take_zero, List.drop_succ_cons, List.drop_zero]
  iterate 11 still_step
  refine wpStill_nil ?_
  change wpList _ _ _ _ _ w.drew
  have HF2 : Hid (Fld w.drew base bx nm st v mb x) := Lib.hid ⟨HF.out.1.stay fun _ _ => rfl, HF.out.2.1, HF.out.2.2⟩
  have m4' : w.drew.cell? ⟨bx, 5, none⟩ = some (.slice (some ⟨gb, 0, none⟩) (n + 1) gc) := m4
  have mu' : w.drew.cell? ⟨gb, n, none⟩ = some u := mu
  have fz' : w.drew.frozen? ⟨gb, n, none⟩ = false := fz
  have HO2 : Hid (OutS (fun k => InV bx v k ∨ k = mb) w w.drew) := Lib.hid ⟨rfl, rfl, rfl, Nat.le_refl _, fun _ _ _ => rfl⟩
  obtain ⟨a1, a2⟩ := HF2.out.setK (by rw [HV.out]) s (y := ⟨x.m, x.goal, some s⟩) rfl rfl rfl
  rw [Hn.out] at a1 a2
  have HA := Lib.hid (And.intro a1 (HO2.out.trans a2 fun _ _ h => h))
  have HN := Lib.hid fun W => GoodName_any (mkS s) W (by rw [mkS_size]; omega)
  clear m4 mu fz a1 a2
  generalize w.drew = W2 at *
  have n0 : (0 : Int) ≤ (n : Int) := Int.natCast_nonneg n
  have n1 : (n : Int) < (n : Int) + 1 := by omega
  go_wp2_with fail
  refine (HN.out _).mono ?_
  rintro e w1 ⟨rfl, rfl⟩
  go_wp2_with fail
  go_ret
  cases hnm : nameS (mkS s) with
  | false => exact ⟨by rw [HE.out, hnm]; rfl, HA.out.2, fun y hy => by rw [HE.out, hnm] at hy; cases hy⟩
  | true => exact ⟨by rw [HE.out, hnm]; rfl, HA.out.2, fun y hy => by rw [HE.out, hnm] at hy; cases hy; exact HA.out.1⟩
theorem pieField_any (nb : Bool) (x : Ins) (c : UInt8) (ci : Int) (hci : ci = (c.toNat : Int)) (s : List UInt8) (hs : s.length ≤ 1000000) (w : World) (hF : Fld w base bx nm st v mb x) (hl : st.code.length ≤ 1000000) :
    Calls Tryz.prog 73 #[.pointer (some ⟨bx, 0, none⟩), .pointer (some ⟨mb, 0, none⟩), .int .u8 ci, .string (mkS s), .bool nb] w (FieldPost w base bx nm st v mb (fieldP nb x c s)) := by
  subst hci
  by_cases h1 : c = 100
  · subst h1; exact field_dst nb x s hs w hF
  by_cases h2 : c = 97
  · subst h2; exact field_a nb x s hs w hF
  by_cases h3 : c = 98
  · subst h3; exact field_b nb x s hs w hF
  by_cases h4 : c = 116
  · subst h4; exact field_goal nb x s hs w hF hl
  by_cases h5 : c = 114 ∧ nb = true
  · obtain ⟨rfl, rfl⟩ := h5; exact field_call x s hs w hF hl
  exact field_num nb x c _ ⟨h1, h2, h3, h4⟩ rfl h5 s hs w hF
end
end Go.Proofs.YtdldochhondifaaGreatDoor
namespace Go.Proofs.YtdldochhondifaaGreatDoor
open Go.RowKit
attribute [local go_sem] Oper.semAt_some

/-- What a line leaves. -/
def PLinePost (w : World) (base bx : Nat) (nm : List UInt8) (v : Pv) (r : Int × PSt) (e : Ending) (w' : World) : Prop :=
  e = .returned (.int .i64 r.1) ∧ OutS (InV bx v) w w' ∧ (r.1 = 0 → ∃ v', Pie w' base bx nm r.2 v' ∧ ∀ k, InV bx v' k → InV bx v k ∨ w.heap.size ≤ k)
section
variable {w : World} {base bx : Nat} {nm : List UInt8} {ms : List Mac} {labs places goals : List Int} {calls : List (List UInt8)} {v : Pv}
theorem pie_len {ms : List Mac} (h : PieM w base bx nm (pieRows ms labs places goals calls v)) :
    (∃ A c, v.c = .slice A ms.length c) ∧ (∃ A c, v.l = .slice A labs.length c) ∧ (∃ A c, v.p = .slice A places.length c) ∧ (∃ A c, v.g = .slice A goals.length c) ∧ (∃ A c, v.k = .slice A calls.length c) :=
  ⟨row_form (h.at_ (i := 0) rfl).1, row_form (h.at_ (i := 1) rfl).1, row_form (h.at_ (i := 2) rfl).1, row_form (h.at_ (i := 3) rfl).1, row_form (h.at_ (i := 4) rfl).1⟩
/-- A number of a row. -/
theorem pie_lab (h : PieM w base bx nm (pieRows ms labs places goals calls v)) {i : Nat} {x : Int} (hi : labs[i]? = some x) : ∃ b c, v.l = .slice (some ⟨b, 0, none⟩) labs.length c ∧ w.cell? ⟨b, i, none⟩ = some (.int .i64 x) := by
  have hr : w.ownsRow base 3 1 v.l labs.length (labs.map (Value.int .i64)) := (h.at_ (i := 1) rfl).1
  have hil := (List.getElem?_eq_some_iff.1 hi).1
  obtain ⟨b, c, hv, _⟩ := hr.form (by omega)
  rw [hv] at hr
  exact ⟨b, c, hv, (hr.cellAt i (by omega)).trans (by rw [List.getElem?_map, hi]; rfl)⟩
theorem rInts_snoc (v v' : Value) (xs : List Int) (x : Int) : (⟨(rInts v xs).e, (rInts v xs).size, v', (rInts v xs).n + 1, xs.map (Value.int .i64) ++ [.int .i64 x]⟩ : Rw) = rInts v' (xs ++ [x]) := by
  simp [rInts]
theorem rStrs_snoc (v v' : Value) (xs : List (List UInt8)) (x : List UInt8) : (⟨(rStrs v xs).e, (rStrs v xs).size, v', (rStrs v xs).n + 1, (xs.map fun l => Value.string (mkS l)) ++ [.string (mkS x)]⟩ : Rw) = rStrs v' (xs ++ [x]) := by
  simp [rStrs]
theorem inV_pie {ms : List Mac} {k : Nat} (h : InV bx v k) : InPie bx (pieRows ms labs places goals calls v) k := inPie_iff.2 h
/-- A label more. -/
theorem pie_addLab (h : PieM w base bx nm (pieRows ms labs places goals calls v)) {x : Int} {v' : Value} {w' : World} {H : Nat} (hap : Appended w base 3 1 v.l (labs.length + 1) (labs.map (Value.int .i64) ++ [.int .i64 x]) H v' w') (hH : w.heap.size ≤ H) :
    PieM (w'.setCell ⟨bx, 2, none⟩ v') base bx nm (pieRows ms (labs ++ [x]) places goals calls { v with l := v' }) ∧ OutS (InV bx v) w (w'.setCell ⟨bx, 2, none⟩ v') ∧ ∀ k, InV bx { v with l := v' } k → InV bx v k ∨ w.heap.size ≤ k := by
  obtain ⟨h1, h2, h3⟩ := h.add (i := 1) rfl hap hH
  have e := rInts_snoc v.l v' labs x
  rw [e] at h1 h3
  exact ⟨h1, h2.wider fun k _ hk => inPie_iff.1 hk, fun k hk => (h3 k (inV_pie (v := { v with l := v' }) hk)).imp inPie_iff.1 id⟩
theorem pie_addPlace (h : PieM w base bx nm (pieRows ms labs places goals calls v)) {x : Int} {v' : Value} {w' : World} {H : Nat} (hap : Appended w base 3 1 v.p (places.length + 1) (places.map (Value.int .i64) ++ [.int .i64 x]) H v' w') (hH : w.heap.size ≤ H) :
    PieM (w'.setCell ⟨bx, 3, none⟩ v') base bx nm (pieRows ms labs (places ++ [x]) goals calls { v with p := v' }) ∧ OutS (InV bx v) w (w'.setCell ⟨bx, 3, none⟩ v') ∧ ∀ k, InV bx { v with p := v' } k → InV bx v k ∨ w.heap.size ≤ k := by
  obtain ⟨h1, h2, h3⟩ := h.add (i := 2) rfl hap hH
  have e := rInts_snoc v.p v' places x
  rw [e] at h1 h3
  exact ⟨h1, h2.wider fun k _ hk => inPie_iff.1 hk, fun k hk => (h3 k (inV_pie (v := { v with p := v' }) hk)).imp inPie_iff.1 id⟩
theorem pie_addGoal (h : PieM w base bx nm (pieRows ms labs places goals calls v)) {x : Int} {v' : Value} {w' : World} {H : Nat} (hap : Appended w base 3 1 v.g (goals.length + 1) (goals.map (Value.int .i64) ++ [.int .i64 x]) H v' w') (hH : w.heap.size ≤ H) :
    PieM (w'.setCell ⟨bx, 4, none⟩ v') base bx nm (pieRows ms labs places (goals ++ [x]) calls { v with g := v' }) ∧ OutS (InV bx v) w (w'.setCell ⟨bx, 4, none⟩ v') ∧ ∀ k, InV bx { v with g := v' } k → InV bx v k ∨ w.heap.size ≤ k := by
  obtain ⟨h1, h2, h3⟩ := h.add (i := 3) rfl hap hH
  have e := rInts_snoc v.g v' goals x
  rw [e] at h1 h3
  exact ⟨h1, h2.wider fun k _ hk => inPie_iff.1 hk, fun k hk => (h3 k (inV_pie (v := { v with g := v' }) hk)).imp inPie_iff.1 id⟩
theorem pie_addCall (h : PieM w base bx nm (pieRows ms labs places goals calls v)) {x : List UInt8} {v' : Value} {w' : World} {H : Nat} (hap : Appended w base 9 1 v.k (calls.length + 1) ((calls.map fun l => Value.string (mkS l)) ++ [.string (mkS x)]) H v' w') (hH : w.heap.size ≤ H) :
    PieM (w'.setCell ⟨bx, 5, none⟩ v') base bx nm (pieRows ms labs places goals (calls ++ [x]) { v with k := v' }) ∧ OutS (InV bx v) w (w'.setCell ⟨bx, 5, none⟩ v') ∧ ∀ k, InV bx { v with k := v' } k → InV bx v k ∨ w.heap.size ≤ k := by
  obtain ⟨h1, h2, h3⟩ := h.add (i := 4) rfl hap hH
  have e := rStrs_snoc v.k v' calls x
  rw [e] at h1 h3
  exact ⟨h1, h2.wider fun k _ hk => inPie_iff.1 hk, fun k hk => (h3 k (inV_pie (v := { v with k := v' }) hk)).imp inPie_iff.1 id⟩
theorem pie_addCode (h : PieM w base bx nm (pieRows ms labs places goals calls v)) {m : Mac} {v' : Value} {w' : World} {H : Nat} (hap : Appended w base 39 5 v.c (ms.length + 1) (cellsS ms ++ m.cells) H v' w') (hH : w.heap.size ≤ H) :
    PieM (w'.setCell ⟨bx, 1, none⟩ v') base bx nm (pieRows (ms ++ [m]) labs places goals calls { v with c := v' }) ∧ OutS (InV bx v) w (w'.setCell ⟨bx, 1, none⟩ v') ∧ ∀ k, InV bx { v with c := v' } k → InV bx v k ∨ w.heap.size ≤ k := by
  obtain ⟨h1, h2, h3⟩ := h.add (i := 0) rfl hap hH
  have e : (⟨(rMacs v.c ms).e, (rMacs v.c ms).size, v', (rMacs v.c ms).n + 1, cellsS ms ++ m.cells⟩ : Rw) = rMacs v' (ms ++ [m]) := by
    simp [rMacs, cellsS]
  rw [e] at h1 h3
  exact ⟨h1, h2.wider fun k _ hk => inPie_iff.1 hk, fun k hk => (h3 k (inV_pie (v := { v with c := v' }) hk)).imp inPie_iff.1 id⟩
end
/-- How far no label is this one. -/
def NoLab (labs : List Int) (n : Int) (i : Nat) : Prop := ∀ x ∈ labs.take i, x ≠ n
theorem NoLab.next {labs : List Int} {n x : Int} {i : Nat} (h : NoLab labs n i) (hx : labs[i]? = some x) (hn : x ≠ n) : NoLab labs n (i + 1) := by
  intro y hy
  rw [List.take_add_one, hx] at hy
  rcases List.mem_append.1 hy with hy | hy
  · exact h y hy
  · simp at hy
    subst hy
    exact hn
theorem labs_any (labs : List (Int × Nat)) (n : Int) : (labs.any fun x => x.1 == n) = (labsI labs).any fun x => x == n := by
  unfold labsI
  rw [List.any_map]
  rfl
section
variable {base bx : Nat} {nm : List UInt8} {st : PSt} {v : Pv}
set_option maxRecDepth 100000 in
set_option maxHeartbeats 4000000 in
theorem pline_label (nb : Bool) (s : List UInt8) (hs : s.length ≤ 1000000) (hc : s.getLast? = some 58) (w : World) (hM : Pie w base bx nm st v) (hbase : base ≤ w.heap.size) (hl : st.labs.length ≤ 1000000) (hl2 : st.code.length ≤ 1000000) :
    Calls Tryz.prog 29 #[.pointer (some ⟨bx, 0, none⟩), .string (mkS s), .bool nb] w (PLinePost w base bx nm v (lineP nb st s)) := by
  obtain ⟨k, hk⟩ : ∃ k, s.length = k + 1 := ⟨s.length - 1, by cases s with | nil => simp at hc | cons a l => simp⟩
  have hz : (mkS s).size = k + 1 := by rw [mkS_size, hk]
  have hlt : k < (mkS s).size := by omega
  have hx : ((mkS s)[k].toNat : Int) = 58 := by
    rw [at_mk s k hlt]
    rw [List.getLast?_eq_getElem?, hk, Nat.add_sub_cancel] at hc
    rw [List.getD_eq_getElem?_getD, hc]
    rfl
  have hex : (mkS s).extract 0 k = mkS s.dropLast := by
    rw [cut_mk, List.drop_zero, List.dropLast_eq_take, hk, Nat.add_sub_cancel]
  have HEx := Lib.hid hex
  have HL := Lib.hid (readLabel_any s.dropLast (by rw [List.length_dropLast]; omega) w)
  have HM := Lib.hid hM
  have HE : Hid (lineP nb st s = match labI s.dropLast with
    | none => (1, st)
    | some n => if (st.labs.any fun x => x.1 == n) = true then (7, st) else (0, ⟨st.code, st.labs ++ [(n, st.code.length)]⟩)) := Lib.hid (by unfold lineP; rw [if_pos hc]; rfl)
  have hk1 : k + 1 ≤ 1000000 := by omega
  have hsub : ((k + 1 : Nat) : Int) - 1 = (k : Int) := by omega
  obtain ⟨l, hlab⟩ : ∃ l, labN s.dropLast = l := ⟨_, rfl⟩
  have Hlab := Lib.hid hlab
  rw [hlab] at HL
  have HB := Lib.hid hbase
  obtain ⟨⟨cA, cc, hcv⟩, ⟨lA, lc, hlv⟩, ⟨pA, pc, hpv⟩, _⟩ := pie_len hM
  obtain ⟨vc, vl, vp, vg, vk⟩ := v
  simp only at hcv hlv hpv
  subst hcv hlv hpv
  obtain ⟨cn, hcn⟩ : ∃ cn, (st.code.map fun x => x.m).length = cn := ⟨_, rfl⟩
  obtain ⟨ln, hln⟩ : ∃ ln, (labsI st.labs).length = ln := ⟨_, rfl⟩
  obtain ⟨pn, hpn⟩ : ∃ pn, (placesI st.labs).length = pn := ⟨_, rfl⟩
  have hlm : ln ≤ 1000000 := by rw [← hln]; unfold labsI; rw [List.length_map]; exact hl
  have hpm : pn ≤ 1000000 := by rw [← hpn]; unfold placesI; rw [List.length_map]; exact hl
  have hcm : cn ≤ 1000000 := by rw [← hcn, List.length_map]; exact hl2
  have Hcn := Lib.hid hcn
  have Hln := Lib.hid hln
  have Hpn := Lib.hid hpn
  rw [hcn, hln, hpn] at HM ⊢
  have m2 : w.cell? ⟨bx, 2, none⟩ = some (.slice lA ln lc) := HM.out.blk.cell 2
  clear hM hc hs hk hlab hl hl2 hbase hcn hln hpn
  go_enter Tryz.func29, Tryz.ntmps29
  go_wp2_with fail
  refine HL.out.mono ?_
  rintro e w1 ⟨rfl, rfl⟩
  cases hlab : labI s.dropLast with
  | none =>
    obtain rfl : l = -1 := by rw [← Hlab.out]; unfold labN; rw [hlab]; rfl
    have H1 : Hid (lineP nb st s = (1, st)) := Lib.hid (by rw [HE.out, hlab])
    clear hlab
    go_wp2_with fail
    go_ret
    rw [H1.out]
    exact ⟨rfl, OutS.refl _ _, fun h => by cases h⟩
  | some n =>
    obtain rfl : n = l := by rw [← Hlab.out]; unfold labN; rw [hlab]; rfl
    have hp := (labI_pos hlab).2
    have hn0 : ¬ n < 0 := by omega
    have HE1 : Hid (lineP nb st s = if ((labsI st.labs).any fun x => x == n) = true then (7, st) else (0, ⟨st.code, st.labs ++ [(n, st.code.length)]⟩)) := Lib.hid (by rw [HE.out, hlab, ← labs_any])
    have H0 : Hid (NoLab (labsI st.labs) n 0) := Lib.hid (fun x h => by simp at h)
    clear hlab HE HL
    go_wp2_with fail
    clear m2
    go_loopg [8] ln (fun gk iv wx => ∃ i : Nat, iv = .int .i64 (i : Int) ∧ i + gk = ln ∧ Hid (NoLab (labsI st.labs) n i) ∧ wx = w)
    case atStart => exact ⟨0, rfl, by omega, H0, rfl⟩
    case round =>
      obtain ⟨i, rfl, hi, HN, rfl⟩ := hrel
      clear H0
      have m2 : wr.cell? ⟨bx, 2, none⟩ = some (.slice lA ln lc) := HM.out.blk.cell 2
      rcases gk with _ | gk
      · obtain rfl : i = ln := by omega
        have H1 : Hid (lineP nb st s = (0, ⟨st.code, st.labs ++ [(n, st.code.length)]⟩)) := Lib.hid (by
          rw [HE1.out, if_neg]
          intro h
          obtain ⟨x, hx, hxn⟩ := List.any_eq_true.1 h
          exact HN.out x (by rw [← Hln.out, List.take_length]; exact hx) (beq_iff_eq.1 hxn))
        clear HN
        have HOw : Hid (wr.ownsRow base 3 1 (.slice lA i lc) i ((labsI st.labs).map (Value.int .i64))) := Lib.hid (by
          have h : wr.ownsRow base 3 1 (.slice lA i lc) (labsI st.labs).length ((labsI st.labs).map (Value.int .i64)) := (PieM.at_ HM.out (i := 1) rfl).1
          rw [Hln.out] at h
          exact h)
        have HBl : Hid (Blk wr bx 63 #[.string (mkS nm), .slice cA cn cc, .slice lA i lc, .slice pA pn pc, vg, vk]) := Lib.hid HM.out.blk
        go_wp2_with (at_builtin; refine app_one rfl _ _ 29 3 rfl (.int .i64 0) 1 8 Tryz.underlying29 infoInt rfl (by decide) (by decide) base _ _ _ (by rfl) HOw.out _ [.int .i64 n] (by rfl) rfl (fun x hx => by simp at hx; subst hx; rfl) rfl (by omega) HB.out ?_; intro v5 w5 HA5; obtain ⟨B4, c4, e4⟩ := row_form HA5.out.own; subst e4; have hb5 := HA5.out.blk HOw.out HBl.out (by decide); have m2b := hb5.cell 2; have f2b := hb5.frozen 2; simp only [List.getElem?_toArray, List.getElem?_cons_succ, List.getElem?_cons_zero] at m2b)
        obtain ⟨q1, q2, q3⟩ := pie_addLab HM.out (x := n) (by rw [Hln.out]; exact HA5.out) (Nat.le_succ _)
        obtain ⟨W2, hW2⟩ : ∃ W2, w5.setCell ⟨bx, 2, none⟩ (.slice B4 (i + 1) c4) = W2 := ⟨_, rfl⟩
        rw [hW2] at q1 q2 ⊢
        have hz2 : base ≤ W2.heap.size := Nat.le_trans HB.out q2.size
        clear hW2 HA5 m2 HOw HBl
        obtain ⟨W3, hW3⟩ : ∃ W3, W2.drew = W3 := ⟨_, rfl⟩
        have hM3 : PieM W3 base bx nm (pieRows (st.code.map fun x => x.m) (labsI st.labs ++ [n]) (placesI st.labs) (st.code.map goalI) (st.code.map callI) ⟨.slice cA cn cc, .slice B4 (i + 1) c4, .slice pA pn pc, vg, vk⟩) := by rw [← hW3]; exact q1.stay fun _ _ => rfl
        have hz3 : base ≤ W3.heap.size := by rw [← hW3]; exact hz2
        have hpl : (rInts (.slice pA pn pc) (placesI st.labs)).n = pn := Hpn.out
        have hown : W3.ownsRow base 3 1 (.slice pA pn pc) pn ((placesI st.labs).map (Value.int .i64)) := by
          have h : W3.ownsRow base 3 1 (.slice pA pn pc) (placesI st.labs).length ((placesI st.labs).map (Value.int .i64)) := (hM3.at_ (i := 2) rfl).1
          rw [Hpn.out] at h
          exact h
        obtain ⟨B5, c5, W4, hr, hap⟩ := run_app_one (P := Tryz.prog) (w := W3) 29 29 3 _ 1 8 Tryz.underlying29 infoInt rfl (by decide) (by decide) base _ _ _ hown [.int .i64 (cn : Int)] rfl (fun u hu => by simp at hu; subst hu; rfl) (by omega) hz3
        obtain ⟨r1, r2, r3⟩ := pie_addPlace hM3 (x := (cn : Int)) (by rw [Hpn.out]; exact hap) (Nat.le_succ _)
        have hbl3 : Blk W3 bx 63 #[.string (mkS nm), .slice cA cn cc, .slice B4 (i + 1) c4, .slice pA pn pc, vg, vk] := hM3.blk
        have hbx := hap.blk hown hbl3 (by decide)
        have HF : Hid (∀ w', w' = W3 ∨ w' = W3.alloc (.cells #[.int .i64 (cn : Int)] 3) ∨ w' = W4 → w'.cell? ⟨bx, 3, none⟩ = some (.slice pA pn pc) ∧ w'.cell? ⟨bx, 1, none⟩ = some (.slice cA cn cc)) := Lib.hid (by
          rintro w' (rfl | rfl | rfl)
          · exact ⟨hbl3.cell 3, hbl3.cell 1⟩
          · exact ⟨(hbl3.alloc _).cell 3, (hbl3.alloc _).cell 1⟩
          · exact ⟨hbx.cell 3, hbx.cell 1⟩)
        have e3 := hbx.cell 3
        have f3 := hbx.frozen 3
        simp only [List.getElem?_toArray, List.getElem?_cons_succ, List.getElem?_cons_zero] at e3
        have Hr := Lib.hid hr
        have HO : Hid (OutS (InV bx ⟨.slice cA cn cc, .slice lA i lc, .slice pA pn pc, vg, vk⟩) wr (W4.setCell ⟨bx, 3, none⟩ (.slice B5 (pn + 1) c5))) := Lib.hid (by
          rw [← hW3] at r2
          exact q2.trans r2.drewn fun k hk h => (q3 k h).elim id fun h => by omega)
        have HK : Hid (∀ k, InV bx ⟨.slice cA cn cc, .slice B4 (i + 1) c4, .slice B5 (pn + 1) c5, vg, vk⟩ k → InV bx ⟨.slice cA cn cc, .slice lA i lc, .slice pA pn pc, vg, vk⟩ k ∨ wr.heap.size ≤ k) := Lib.hid fun k hk => by
          rcases r3 k hk with h | h
          · exact q3 k h
          · refine .inr (Nat.le_trans q2.size ?_)
            rw [← hW3] at h
            exact h
        have HR := Lib.hid r1
        have HW3 := Lib.hid hW3
        clear q1 q2 q3 hz2 hW3 hM3 hz3 hpl hown hr hap r1 r2 r3 hbl3 hbx
        refine wp_region_lex (Three W3 (W3.alloc (.cells #[.int .i64 (cn : Int)] 3)) W4 (W4.setCell ⟨bx, 3, none⟩ (.slice B5 (pn + 1) c5)) 10 11 14 12) (by kernel_rfl) (by kernel_rfl) (by have h : ({ W2 with drawn := W2.drawn + 1 } : World) = W3 := HW3.out; rw [h]; exact Three.start) ?_
        iterate 10
          apply wpLex_step
          · rfl
          · intro L w' hC hL hd
            clear hd
            have F := HF.out w' (hC.pend hL (by decide))
            have HC := Lib.hid hC
            clear hC
            go_simp
            exact ⟨HC.out.keep _ (by decide) (by decide) (by decide), rfl⟩
          simp only [Act.put, List.setIfInBounds_toArray, List.set_cons_succ, List.set_cons_zero, Nat.reduceAdd]
        apply wpLex_step
        · rfl
        · intro L w' hC hL hd
          obtain ⟨hw, hC2⟩ := hC.at1 hL (by decide) (by decide) (by decide)
          subst hw
          have HC2 := Lib.hid hC2
          clear hd hC hL hC2
          go_simp
          exact ⟨HC2.out, rfl⟩
        simp only [Act.put, List.setIfInBounds_toArray, List.set_cons_succ, List.set_cons_zero, Nat.reduceAdd]
        apply wpLex_step
        · rfl
        · intro L w' hC hL hd
          obtain ⟨hw, hC2⟩ := hC.at2 hL (hd ⟨10, .data⟩ (by simp) rfl) (by decide) (by decide)
          subst hw
          rw [exec_app (.tmp 65) (.tmp 71) 29 29 rfl _ _ _ _ rfl rfl Hr.out]
          exact ⟨hC2, rfl⟩
        simp only [Act.put, List.setIfInBounds_toArray, List.set_cons_succ, List.set_cons_zero, Nat.reduceAdd]
        iterate 2
          apply wpLex_step
          · rfl
          · intro L w' hC hL hd
            clear hd
            have HC := Lib.hid hC
            clear hC
            go_simp
            exact ⟨HC.out.keep _ (by decide) (by decide) (by decide), rfl⟩
          simp only [Act.put, List.setIfInBounds_toArray, List.set_cons_succ, List.set_cons_zero, Nat.reduceAdd]
        apply wpLex_step
        · rfl
        · intro L w' hC hL hd
          obtain ⟨hw, hC2⟩ := hC.at3 hL (cover (m := 12) (by kernel_rfl) hd) (by decide) (by decide)
          subst hw
          have HC2 := Lib.hid hC2
          clear hd hC hL hC2
          go_simp
          exact ⟨HC2.out, rfl⟩
        simp only [Act.put, Nat.reduceAdd]
        apply wpLex_nil
        intro L w' hC hd
        obtain rfl := hC.end_ (hd 14 (by decide))
        clear hC hd
        go_wp2_with fail
        go_ret
        rw [H1.out]
        refine ⟨rfl, HO.out, fun _ => ⟨_, ?_, HK.out⟩⟩
        unfold Pie
        have e1 : labsI (st.labs ++ [(n, st.code.length)]) = labsI st.labs ++ [n] := by simp [labsI]
        have e2 : placesI (st.labs ++ [(n, st.code.length)]) = placesI st.labs ++ [(cn : Int)] := by rw [← Hcn.out]; simp [placesI]
        simp only [e1, e2]
        exact HR.out
      · have hil : i < ln := by omega
        obtain ⟨x, hx⟩ : ∃ x, (labsI st.labs)[i]? = some x := ⟨(labsI st.labs)[i]'(by rw [Hln.out]; exact hil), List.getElem?_eq_getElem _⟩
        obtain ⟨b, c, hbv, hbc⟩ := pie_lab HM.out hx
        obtain rfl : lA = some ⟨b, 0, none⟩ := (Value.slice.inj hbv).1
        have k0 : (0 : Int) ≤ (i : Int) := Int.natCast_nonneg i
        have k1 : (i : Int) < (ln : Int) := by omega
        by_cases hxn : x = n
        · subst hxn
          have H1 : Hid (lineP nb st s = (7, st)) := Lib.hid (by
            have h : ((labsI st.labs).any fun y => y == x) = true := List.any_eq_true.2 ⟨x, List.mem_of_getElem? hx, beq_self_eq_true x⟩
            rw [HE1.out, if_pos h])
          clear hx hbv
          go_wp2_with fail
          go_ret
          rw [H1.out]
          exact ⟨rfl, OutS.refl _ _, fun h => by cases h⟩
        · have hxb : (x == n) = false := beq_false_of_ne hxn
          have HN2 := Lib.hid (HN.out.next hx hxn)
          clear hx hbv hxn
          go_wp2_with fail
          go_roundg gk
          case measure => omega
          case rel => exact ⟨i + 1, by go_num, by omega, HN2, rfl⟩
end
end Go.Proofs.YtdldochhondifaaGreatDoor
