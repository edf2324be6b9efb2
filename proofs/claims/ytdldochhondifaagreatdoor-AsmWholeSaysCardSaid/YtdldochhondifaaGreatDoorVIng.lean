/-
  Texts of the claim AsmWholeSays (Ing): what each proves stands at its theorems.
  Conditions: as the theorems say.
-/
import Derived.WalkKit
import Derived.KernelRfl
import Derived.Test.YtdldochhondifaaGreatDoorVMacC
namespace Go.Proofs.YtdldochhondifaaGreatDoor
open Go

section
variable {P : Program}

/-- What an operation comes to: the value v, and a world of which C holds. -/
def sureUpon (P : Program) (C : World → Prop) (v : Value) : Result Next → Prop
  | .ok (.value u) w' => C w' ∧ u = v
  | .ok .skip w' => C w' ∧ v = undef
  | .ok (.enter f args) w' => Calls P f args w' (fun e w'' => e = .returned v ∧ C w'')
  | _ => False
/-- Operation number k yields v, whenever it comes up. -/
def Sure (P : Program) (ops : Array Oper) (C : Array Bool → World → Prop) (k : Nat) (o : Oper) (a : Act) (v : Value) : Prop :=
  (Region.wanted o (yielded ops a.tmps) = true ∧ ∀ (L : Array Bool) (w : World), C L w → L.getD k true = false →
      (∀ e, e ∈ o.after.toList → Region.binds .any e = true → L.getD e.on false = true) → sureUpon P (C (L.setIfInBounds k true)) v ((execOp a.eval o).run P w)) ∨
  (Region.wanted o (yielded ops a.tmps) = false ∧ v = undef ∧ ∀ (L : Array Bool) (w : World), C L w → C (L.setIfInBounds k true) w)
/-- The walk, in the order of the text. -/
def wpLex (P : Program) (ops : Array Oper) (C : Array Bool → World → Prop) (Q : Act → Prop) : List Oper → Nat → Act → Prop
  | [], _, a => Q a
  | o :: rest, k, a => ∃ v, Sure P ops C k o a v ∧ wpLex P ops C Q rest (k + 1) (a.put o.dst v)
theorem wpLex_nil {ops : Array Oper} {C : Array Bool → World → Prop} {Q : Act → Prop} {k : Nat} {a : Act} (h : Q a) : wpLex P ops C Q [] k a := h
theorem wpLex_step {ops : Array Oper} {C : Array Bool → World → Prop} {Q : Act → Prop} {k : Nat} {a : Act} {o : Oper} {rest : List Oper} (v : Value)
    (hw : Region.wanted o (yielded ops a.tmps) = true)
    (h : ∀ (L : Array Bool) (w : World), C L w → L.getD k true = false → (∀ e, e ∈ o.after.toList → Region.binds .any e = true → L.getD e.on false = true) →
      sureUpon P (C (L.setIfInBounds k true)) v ((execOp a.eval o).run P w))
    (hn : wpLex P ops C Q rest (k + 1) (a.put o.dst v)) : wpLex P ops C Q (o :: rest) k a := ⟨v, .inl ⟨hw, h⟩, hn⟩
/-- The frame when just the operations in S have been done. -/
def putSel (S : Nat → Bool) : List Oper → List Value → Nat → Act → Act
  | o :: l, v :: vs, k, a => putSel S l vs (k + 1) (if S k then a.put o.dst v else a)
  | [], _, _, a => a
  | _ :: _, [], _, a => a
theorem putSel_none {S : Nat → Bool} : ∀ (l : List Oper) (vs : List Value) (k : Nat) (a : Act), (∀ j, k ≤ j → S j = false) → putSel S l vs k a = a
  | [], _, _, _, _ => by simp [putSel]
  | _ :: _, [], _, _, _ => by simp [putSel]
  | o :: l, v :: vs, k, a, h => by
    simp only [putSel, h k (Nat.le_refl _), Bool.false_eq_true, if_false]
    exact putSel_none l vs (k + 1) a fun j hj => h j (by omega)
theorem putSel_congr {S S' : Nat → Bool} : ∀ (l : List Oper) (vs : List Value) (k : Nat) (a : Act), (∀ j, k ≤ j → S j = S' j) → putSel S l vs k a = putSel S' l vs k a
  | [], _, _, _, _ => by simp [putSel]
  | _ :: _, [], _, _, _ => by simp [putSel]
  | o :: l, v :: vs, k, a, h => by
    simp only [putSel, h k (Nat.le_refl _)]
    exact putSel_congr l vs (k + 1) _ fun j hj => h j (by omega)
theorem putSel_all {S : Nat → Bool} : ∀ (l : List Oper) (vs : List Value) (k : Nat) (a : Act), (∀ j, j < l.length → S (k + j) = true) → putSel S l vs k a = putSel (fun _ => true) l vs k a
  | [], _, _, _, _ => by simp [putSel]
  | _ :: _, [], _, _, _ => by simp [putSel]
  | o :: l, v :: vs, k, a, h => by
    have h0 : S k = true := h 0 (by simp)
    simp only [putSel, h0, if_true]
    exact putSel_all l vs (k + 1) _ fun j hj => by have := h (j + 1) (by simp; omega); rwa [show k + (j + 1) = k + 1 + j from by omega] at this
theorem lex_out {ops : Array Oper} {C : Array Bool → World → Prop} {Q : Act → Prop} : ∀ (l : List Oper) (k : Nat) (a : Act), wpLex P ops C Q l k a →
    ∃ vs : List Value, vs.length = l.length ∧ (∀ (i : Nat) (o : Oper) (v : Value), l[i]? = some o → vs[i]? = some v → Sure P ops C (k + i) o (putSel (fun j => decide (j < k + i)) l vs k a) v) ∧
      Q (putSel (fun _ => true) l vs k a)
  | [], _, _, h => ⟨[], rfl, fun i o v h' => by simp at h', h⟩
  | o :: l, k, a, ⟨v, hs, hn⟩ => by
    obtain ⟨vs, hl, hv, hq⟩ := lex_out l (k + 1) _ hn
    refine ⟨v :: vs, by simp [hl], fun i o' v' h1 h2 => ?_, by simpa [putSel] using hq⟩
    cases i with
    | zero =>
      simp only [List.getElem?_cons_zero, Option.some.injEq] at h1 h2
      subst h1; subst h2
      rw [putSel_none _ _ _ _ (fun j hj => by simp; omega)]
      exact hs
    | succ i =>
      simp only [List.getElem?_cons_succ] at h1 h2
      have := hv i o' v' h1 h2
      simp only [putSel]
      have e : k + (i + 1) = k + 1 + i := by omega
      rw [e, if_pos (by simp; omega)]
      exact this

theorem put_slot (a a' : Act) (dst : Option Tmp) (v : Value) (d : Tmp) (h : a.tmps[d]? = a'.tmps[d]?) : (a.put dst v).tmps[d]? = (a'.put dst v).tmps[d]? := by
  cases dst with
  | none => exact h
  | some t =>
    simp only [Act.put]
    by_cases e : t = d
    · subst e
      have hh : (t < a.tmps.size) ↔ (t < a'.tmps.size) := by
        constructor
        · intro h1
          rcases Nat.lt_or_ge t a'.tmps.size with h2 | h2
          · exact h2
          · rw [Array.getElem?_eq_none h2, Array.getElem?_eq_getElem h1] at h; cases h
        · intro h1
          rcases Nat.lt_or_ge t a.tmps.size with h2 | h2
          · exact h2
          · rw [Array.getElem?_eq_none h2, Array.getElem?_eq_getElem h1] at h; cases h
      by_cases hs : t < a.tmps.size
      · have hs' := hh.1 hs
        rw [Array.getElem?_setIfInBounds, Array.getElem?_setIfInBounds]; simp [hs, hs']
      · have hs' : ¬ t < a'.tmps.size := fun h' => hs (hh.2 h')
        rw [Array.getElem?_setIfInBounds, Array.getElem?_setIfInBounds]; simp [hs, hs']
    · rw [Array.getElem?_setIfInBounds_ne e, Array.getElem?_setIfInBounds_ne e]; exact h
theorem put_slot_ne (a : Act) (dst : Option Tmp) (v : Value) (d : Tmp) (h : dst ≠ some d) : (a.put dst v).tmps[d]? = a.tmps[d]? := by
  cases dst with
  | none => rfl
  | some t => simp only [Act.put]; rw [Array.getElem?_setIfInBounds_ne (fun e => h (by rw [e]))]
theorem putSel_slot {S S' : Nat → Bool} (d : Tmp) : ∀ (l : List Oper) (vs : List Value) (k : Nat) (a a' : Act), a.tmps[d]? = a'.tmps[d]? →
    (∀ (j : Nat) (o : Oper), l[j]? = some o → o.dst = some d → S (k + j) = S' (k + j)) → (putSel S l vs k a).tmps[d]? = (putSel S' l vs k a').tmps[d]?
  | [], _, _, _, _, h, _ => by simpa [putSel] using h
  | _ :: _, [], _, _, _, h, _ => by simpa [putSel] using h
  | o :: l, v :: vs, k, a, a', h, hs => by
    simp only [putSel]
    refine putSel_slot d l vs (k + 1) _ _ ?_ (fun j o' h1 h2 => by have := hs (j + 1) o' (by simpa using h1) h2; rwa [show k + (j + 1) = k + 1 + j from by omega] at this)
    by_cases hd : o.dst = some d
    · have := hs 0 o rfl hd
      simp only [Nat.add_zero] at this
      rw [this]
      cases S' k with
      | true => exact put_slot _ _ _ _ _ h
      | false => exact h
    · cases S k <;> cases S' k <;> simp only [if_true, if_false, Bool.false_eq_true, put_slot_ne _ _ _ _ hd] <;> exact h
theorem putSel_put {S : Nat → Bool} {dst : Option Tmp} {v : Value} : ∀ (l : List Oper) (vs : List Value) (k : Nat) (a : Act),
    (∀ o, o ∈ l → ∀ d, dst = some d → o.dst ≠ some d) → putSel S l vs k (a.put dst v) = (putSel S l vs k a).put dst v
  | [], _, _, _, _ => by simp [putSel]
  | _ :: _, [], _, _, _ => by simp [putSel]
  | o :: l, u :: vs, k, a, h => by
    simp only [putSel]
    have ih := fun a' => putSel_put (S := S) (dst := dst) (v := v) l vs (k + 1) a' fun o' ho' => h o' (by simp [ho'])
    cases S k with
    | true =>
      simp only [if_true]
      rw [Act.put_comm a v u (h o (by simp))]
      exact ih _
    | false => exact ih _
theorem putSel_set {S S' : Nat → Bool} : ∀ (l : List Oper) (vs : List Value) (k : Nat) (a : Act) (i : Nat) (o : Oper) (v : Value), l[i]? = some o → vs[i]? = some v → S (k + i) = false → S' (k + i) = true →
    (∀ j, j ≠ k + i → S' j = S j) → (∀ (j : Nat) (o' : Oper), l[j]? = some o' → j ≠ i → ∀ d, o.dst = some d → o'.dst ≠ some d) →
    (putSel S l vs k a).put o.dst v = putSel S' l vs k a
  | [], _, _, _, i, o, v, h, _, _, _, _, _ => by simp at h
  | _ :: _, [], _, _, i, o, v, _, h, _, _, _, _ => by simp at h
  | x :: l, u :: vs, k, a, 0, o, v, h1, h2, h3, h4, h5, h6 => by
    simp only [List.getElem?_cons_zero, Option.some.injEq] at h1 h2
    subst h1; subst h2
    simp only [Nat.add_zero] at h3 h4
    simp only [putSel, h3, h4, if_true, Bool.false_eq_true, if_false]
    rw [putSel_put l vs (k + 1) a fun o' ho' => by
      obtain ⟨j, hj⟩ := List.mem_iff_getElem?.1 ho'
      exact h6 (j + 1) o' (by simpa using hj) (by omega)]
    rw [putSel_congr l vs (k + 1) a fun j hj => (h5 j (by omega)).symm]
  | x :: l, u :: vs, k, a, i + 1, o, v, h1, h2, h3, h4, h5, h6 => by
    simp only [List.getElem?_cons_succ] at h1 h2
    have e : k + (i + 1) = k + 1 + i := by omega
    simp only [putSel]
    rw [h5 k (by omega)]
    exact putSel_set l vs (k + 1) _ i o v h1 h2 (e ▸ h3) (e ▸ h4) (fun j hj => h5 j (by omega)) fun j o' hj hne => h6 (j + 1) o' (by simpa using hj) (by omega)

/-- The region's edges do for the walk in the order of the text. -/
def lexOk (ops : Array Oper) : Bool := Region.noSelect ops && (List.range ops.size).all fun i => match ops[i]? with
  | some oi => (oi.after.toList.all fun e => !Region.binds .any e || decide (e.on < i)) && (List.range ops.size).all fun j => match ops[j]? with
    | some oj => (match oj.dst with
      | some d => (i == j || oi.dst != some d) && (!(oi.looksAt ops).contains d || (decide (j < i) && oi.after.toList.any fun e => Region.binds .any e && e.on == j))
      | none => true)
    | none => true
  | none => true
theorem lexOk_spec {ops : Array Oper} (h : lexOk ops = true) (i : Nat) (oi : Oper) (hi : ops[i]? = some oi) :
    (∀ e, e ∈ oi.after.toList → Region.binds .any e = true → e.on < i) ∧
    ∀ (j : Nat) (oj : Oper) (d : Tmp), ops[j]? = some oj → oj.dst = some d → (i ≠ j → oi.dst ≠ some d) ∧
      (d ∈ oi.looksAt ops → j < i ∧ ∃ e, e ∈ oi.after.toList ∧ Region.binds .any e = true ∧ e.on = j) := by
  unfold lexOk at h
  rw [Bool.and_eq_true, List.all_eq_true] at h
  have hi' : i < ops.size := by
    rcases Nat.lt_or_ge i ops.size with h' | h'
    · exact h'
    · rw [Array.getElem?_eq_none h'] at hi; cases hi
  have h1 := h.2 i (List.mem_range.2 hi')
  simp only [hi, Bool.and_eq_true, List.all_eq_true] at h1
  refine ⟨fun e he hb => ?_, fun j oj d hj hd => ?_⟩
  · have := h1.1 e he
    simpa [hb] using this
  · have hj' : j < ops.size := by
      rcases Nat.lt_or_ge j ops.size with h' | h'
      · exact h'
      · rw [Array.getElem?_eq_none h'] at hj; cases hj
    have h2 := h1.2 j (List.mem_range.2 hj')
    simp only [hj, hd, Bool.and_eq_true, Bool.or_eq_true] at h2
    refine ⟨fun hne => ?_, fun hm => ?_⟩
    · rcases h2.1 with h3 | h3
      · exact absurd (by simpa using h3) hne
      · simpa using h3
    · rcases h2.2 with h3 | h3
      · simp at h3; exact absurd hm h3
      · obtain ⟨h4, h5⟩ := h3
        obtain ⟨e, he, hb⟩ := List.any_eq_true.1 h5
        simp at hb
        exact ⟨by simpa using h4, e, he, hb.1, hb.2⟩

/-- How many are still to come. -/
def leftN (S : Nat → Bool) : Nat → Nat
  | 0 => 0
  | n + 1 => leftN S n + if S n then 0 else 1
theorem leftN_congr {S S' : Nat → Bool} : ∀ n, (∀ j, j < n → S j = S' j) → leftN S n = leftN S' n
  | 0, _ => rfl
  | n + 1, h => by simp only [leftN, h n (by omega)]; rw [leftN_congr n fun j hj => h j (by omega)]
theorem leftN_set {S S' : Nat → Bool} {i : Nat} (h1 : S i = false) (h2 : S' i = true) (h3 : ∀ j, j ≠ i → S' j = S j) : ∀ n, i < n → leftN S' n + 1 = leftN S n
  | 0, h => by omega
  | n + 1, h => by
    by_cases e : i = n
    · subst e
      simp only [leftN, h1, h2]
      rw [leftN_congr i fun j hj => h3 j (by omega)]
      simp
    · simp only [leftN]
      have := leftN_set h1 h2 h3 n (by omega)
      rw [h3 n (by omega)]
      omega
theorem leftN_zero {S : Nat → Bool} : ∀ n, leftN S n = 0 → ∀ j, j < n → S j = true
  | 0, _, j, h => by omega
  | n + 1, h, j, hj => by
    simp only [leftN] at h
    by_cases e : j = n
    · subst e
      by_cases hs : S j = true
      · exact hs
      · rw [if_neg hs] at h; omega
    · exact leftN_zero n (by omega) j (by omega)
theorem leftN_rep (n : Nat) : ∀ m, m ≤ n → leftN (fun j => (Array.replicate n false).getD j false) m = m
  | 0, _ => rfl
  | m + 1, h => by
    simp only [leftN]
    rw [leftN_rep n m (by omega)]
    simp [Array.getD]

theorem wpAny_lex {ops : Array Oper} {l : List Oper} (hl : ops = l.toArray) {C : Array Bool → World → Prop} {Q : Exit → Act → World → Prop} {a : Act} (hB : lexOk ops = true) (vs : List Value) (hlen : vs.length = l.length)
    (hv : ∀ (i : Nat) (o : Oper) (v : Value), l[i]? = some o → vs[i]? = some v → Sure P ops C i o (putSel (fun j => decide (j < i)) l vs 0 a) v)
    (hq : ∀ (L : Array Bool) (w' : World), C L w' → (∀ j, j < l.length → L.getD j false = true) → Q .normal (putSel (fun _ => true) l vs 0 a) w') :
    ∀ (fuel : Nat) (L : Array Bool) (w' : World), L.size = l.length → leftN (fun j => L.getD j false) l.length ≤ fuel → C L w' →
      wpAny P .any ops Q fuel L (putSel (fun j => L.getD j false) l vs 0 a) w' := by
  have hops : ∀ i : Nat, ops[i]? = l[i]? := fun i => by rw [hl]; simp
  have hsz : ops.size = l.length := by rw [hl]; simp
  have hsel := Region.noSelect_spec (ops := ops) (by unfold lexOk at hB; exact (Bool.and_eq_true_iff.1 hB).1)
  have hall : ∀ (L : Array Bool) (w' : World), C L w' → (∀ j, j < l.length → L.getD j false = true) → Q .normal (putSel (fun j => L.getD j false) l vs 0 a) w' := fun L w' hC hL => by
    rw [putSel_all (S := fun j => L.getD j false) l vs 0 a fun j hj => by simpa using hL j hj]
    exact hq L w' hC hL
  have mem_ready : ∀ (L : Array Bool) (i : Nat), i ∈ Region.ready .any ops L ↔ i < l.length ∧ L.getD i true = false ∧ ∃ o, l[i]? = some o ∧ ∀ e, e ∈ o.after.toList → Region.binds .any e = true → L.getD e.on false = true := by
    intro L i
    unfold Region.ready
    rw [List.mem_filter, List.mem_range, hsz]
    refine ⟨fun ⟨h1, h2⟩ => ⟨h1, ?_⟩, fun ⟨h1, h2, o, h3, h4⟩ => ⟨h1, ?_⟩⟩
    · simp only [Bool.and_eq_true, Bool.not_eq_true'] at h2
      refine ⟨h2.1, ?_⟩
      have h3 := h2.2
      rw [hops] at h3
      cases ho : l[i]? with
      | none => rw [ho] at h3; simp at h3
      | some o =>
        rw [ho] at h3
        refine ⟨o, rfl, fun e he hb => ?_⟩
        simp only [Option.map_some, Option.getD_some] at h3
        have := Array.all_eq_true_iff_forall_mem.1 h3 e (by simpa using he)
        simpa [hb] using this
    · simp only [Bool.and_eq_true, Bool.not_eq_true']
      refine ⟨h2, ?_⟩
      rw [hops, h3]
      simp only [Option.map_some, Option.getD_some]
      rw [Array.all_eq_true_iff_forall_mem]
      intro e he
      by_cases hb : Region.binds .any e = true
      · simp [hb, h4 e (by simpa using he) hb]
      · simp [hb]
  have getD_true : ∀ (L : Array Bool) (i : Nat), L.size = l.length → i < l.length → L.getD i true = L.getD i false := fun L i h1 h2 => by
    simp [Array.getD, h1, h2]
  have none_ready : ∀ (L : Array Bool), L.size = l.length → Region.ready .any ops L = [] → ∀ j, j < l.length → L.getD j false = true := by
    intro L hLs hr
    intro j
    induction j using Nat.strongRecOn with
    | ind j ih =>
      intro hj
      by_cases h : L.getD j false = true
      · exact h
      · exfalso
        have hmem : j ∈ Region.ready .any ops L := by
          rw [mem_ready]
          have hlj : l[j]? = some l[j] := List.getElem?_eq_getElem hj
          refine ⟨hj, by rw [getD_true L j hLs hj]; simpa using h, l[j], hlj, fun e he hb => ?_⟩
          have hlt := (lexOk_spec hB j l[j] (by rw [hops, hlj])).1 e he hb
          exact ih e.on hlt (by omega)
        rw [hr] at hmem
        cases hmem
  intro fuel
  induction fuel with
  | zero =>
    intro L w' hLs hf hC
    have hl0 := leftN_zero l.length (by omega : leftN (fun j => L.getD j false) l.length = 0)
    refine ⟨?_, hall L w' hC hl0⟩
    rw [List.eq_nil_iff_forall_not_mem]
    intro i hi
    rw [mem_ready] at hi
    have := hl0 i hi.1
    rw [← getD_true L i hLs hi.1, hi.2.1] at this
    cases this
  | succ fuel ih =>
    intro L w' hLs hf hC
    refine ⟨fun hr => hall L w' hC (none_ready L hLs hr), fun i hi => ?_⟩
    rw [mem_ready] at hi
    obtain ⟨hil, hLi, o, ho, hdep⟩ := hi
    have hvi : vs[i]? = some vs[i] := List.getElem?_eq_getElem (by omega)
    have hS := hv i o vs[i] ho hvi
    have hLi' : L.getD i false = false := by rw [← getD_true L i hLs hil]; exact hLi
    have hset : ∀ j : Nat, (L.setIfInBounds i true).getD j false = if j = i then true else L.getD j false := by
      intro j
      simp only [Array.getD_eq_getD_getElem?]
      by_cases e : j = i
      · subst e; rw [Array.getElem?_setIfInBounds]; simp [hLs, hil]
      · rw [Array.getElem?_setIfInBounds_ne (fun h => e h.symm)]; simp [e]
    have hnext : wpAny P .any ops Q fuel (L.setIfInBounds i true) (putSel (fun j => (L.setIfInBounds i true).getD j false) l vs 0 a) = wpAny P .any ops Q fuel (L.setIfInBounds i true) ((putSel (fun j => L.getD j false) l vs 0 a).put o.dst vs[i]) := by
      rw [putSel_set (S := fun j => L.getD j false) (S' := fun j => (L.setIfInBounds i true).getD j false) l vs 0 a i o vs[i] ho hvi (by simpa using hLi') (by rw [Nat.zero_add, hset]; simp)
        (fun j hj => by rw [hset, if_neg (by omega)]) (fun j o' hj hne d hd hd' => (((lexOk_spec hB i o (by rw [hops, ho])).2 j o' d (by rw [hops, hj]) hd').1 (fun e => hne e.symm)) hd)]
    have goon : ∀ w'', C (L.setIfInBounds i true) w'' → wpAny P .any ops Q fuel (L.setIfInBounds i true) ((putSel (fun j => L.getD j false) l vs 0 a).put o.dst vs[i]) w'' := by
      intro w'' hC'
      rw [← hnext]
      refine ih _ w'' (by simp [hLs]) ?_ hC'
      have := leftN_set (S := fun j => L.getD j false) (S' := fun j => (L.setIfInBounds i true).getD j false) (i := i) hLi' (by rw [hset]; simp) (fun j hj => by rw [hset, if_neg hj]) l.length hil
      omega
    -- the frame here and the frame of the walk hold the same in what the operation looks at
    have hsame : ∀ d, d ∈ o.looksAt ops → (putSel (fun j => L.getD j false) l vs 0 a).tmps[d]? = (putSel (fun j => decide (j < i)) l vs 0 a).tmps[d]? := by
      intro d hd
      refine putSel_slot d l vs 0 a a rfl fun j oj hj hjd => ?_
      obtain ⟨h1, e, he, hb, hon⟩ := ((lexOk_spec hB i o (by rw [hops, ho])).2 j oj d (by rw [hops, hj]) hjd).2 hd
      have := hdep e he hb
      rw [hon] at this
      simp only [Nat.zero_add]
      rw [this]; simp [h1]
    have hexec : execOp (putSel (fun j => L.getD j false) l vs 0 a).eval o = execOp (putSel (fun j => decide (j < i)) l vs 0 a).eval o := by
      refine execOp_congr o (fun cs b => hsel i o cs b (by rw [hops, ho])) fun x hx => ?_
      cases x with
      | tmp t =>
        have := hsame t (by unfold Oper.looksAt; exact List.mem_append_left _ (List.mem_filterMap.2 ⟨.tmp t, by simpa using hx, rfl⟩))
        generalize putSel (fun j => L.getD j false) l vs 0 a = A at this ⊢
        generalize putSel (fun j => decide (j < i)) l vs 0 a = A' at this ⊢
        simp only [Act.eval, Array.getD_eq_getD_getElem?, this]
      | const v => rfl
      | global g => rfl
      | func f => rfl
    have hwant : Region.wanted o (yielded ops (putSel (fun j => L.getD j false) l vs 0 a).tmps) = Region.wanted o (yielded ops (putSel (fun j => decide (j < i)) l vs 0 a).tmps) := by
      unfold Region.wanted
      cases hg : o.guard with
      | none => rfl
      | some gw =>
        obtain ⟨g, want⟩ := gw
        have : yielded ops (putSel (fun j => L.getD j false) l vs 0 a).tmps g = yielded ops (putSel (fun j => decide (j < i)) l vs 0 a).tmps g := by
          unfold yielded
          cases hgd : (ops[g]?).bind (·.dst) with
          | none => rfl
          | some t =>
            have := hsame t (by unfold Oper.looksAt; rw [hg]; simp [hgd])
            simp only [Option.bind_some, this]
        simp only [this]
    unfold wpOp
    rw [hops, ho]
    simp only
    rw [hwant]
    rcases hS with ⟨hw, hrun⟩ | ⟨hw, hu, hk⟩
    · rw [if_pos hw]
      refine .inl ?_
      have h3 := hrun L w' hC (by simpa using hLi) hdep
      unfold Oper.wp
      rw [hexec]
      generalize (execOp (putSel (fun j => decide (j < i)) l vs 0 a).eval o).run P w' = r at h3 ⊢
      cases r with
      | ok n w'' =>
        cases n <;> simp only [sureUpon] at h3 <;> simp only [Oper.upon]
        case value u => rw [h3.2]; exact goon _ h3.1
        case skip => rw [← h3.2]; exact goon _ h3.1
        case enter f args => exact h3.mono fun e w3 ⟨he, hC3⟩ => by subst he; exact goon _ hC3
      | halt x w'' => simp only [sureUpon] at h3
    · rw [if_neg (by rw [hw]; simp)]
      have := goon w' (hk L w' hC)
      rwa [hu] at this

theorem wp_region_lex {id : Nat} {l : List Oper} {Q : Exit → Act → World → Prop} {a : Act} {w : World} (C : Array Bool → World → Prop) (hm : P.follows .mixedOrders = true) (hB : lexOk l.toArray = true)
    (h0 : C (Array.replicate l.length false) { w with drawn := w.drawn + 1 })
    (h : wpLex P l.toArray C (fun a' => ∀ (L : Array Bool) (w' : World), C L w' → (∀ j, j < l.length → L.getD j false = true) → Q .normal a' w') l 0 a) : (Code.region id l.toArray true).wp P Q a w := by
  obtain ⟨vs, hlen, hv, hq⟩ := lex_out l 0 a h
  refine wp_region_any hm ?_
  have h1 := wpAny_lex (ops := l.toArray) rfl hB vs hlen (by simpa using hv) hq l.length (Array.replicate l.length false) _ (by simp) (by rw [leftN_rep _ _ (Nat.le_refl _)]; exact Nat.le_refl _) h0
  rw [putSel_none (S := fun j => (Array.replicate l.length false).getD j false) _ _ _ _ (fun j _ => by simp [Array.getD])] at h1
  simpa using h1
end

/-- The stages of a world in which one operation (number ka) makes a block, and another one (ks) then fills it. -/
def Stages (W : World) (o1 o2 : Obj) (ka ks : Nat) (L : Array Bool) (w : World) : Prop :=
  if L.getD ks false = true then (L.getD ka false = true ∧ w = W.alloc o2) else if L.getD ka false = true then w = W.alloc o1 else w = W
theorem getD_set_ne (L : Array Bool) (i j : Nat) (h : i ≠ j) : (L.setIfInBounds i true).getD j false = L.getD j false := by
  simp only [Array.getD_eq_getD_getElem?]; rw [Array.getElem?_setIfInBounds_ne h]
theorem getD_set_eq (L : Array Bool) (i : Nat) (h : L.getD i true = false) : (L.setIfInBounds i true).getD i false = true := by
  have hi : i < L.size := by
    rcases Nat.lt_or_ge i L.size with h' | h'
    · exact h'
    · simp [Array.getD_eq_getD_getElem?, Array.getElem?_eq_none h'] at h
  simp only [Array.getD_eq_getD_getElem?]; rw [Array.getElem?_setIfInBounds]; simp [hi]
theorem getD_false (L : Array Bool) (i : Nat) (h : L.getD i true = false) : L.getD i false = false := by
  simp only [Array.getD_eq_getD_getElem?] at *
  cases hh : L[i]? with
  | none => simp
  | some b => rw [hh] at h; simpa using h
theorem Stages.keep {W : World} {o1 o2 : Obj} {ka ks : Nat} {L : Array Bool} {w : World} (h : Stages W o1 o2 ka ks L w) (k : Nat) (h1 : k ≠ ka) (h2 : k ≠ ks) : Stages W o1 o2 ka ks (L.setIfInBounds k true) w := by
  unfold Stages at *
  rw [getD_set_ne L k ks h2, getD_set_ne L k ka h1]
  exact h
theorem Stages.start {W : World} {o1 o2 : Obj} {ka ks n : Nat} : Stages W o1 o2 ka ks (Array.replicate n false) W := by
  have h : ∀ k, (Array.replicate n false).getD k false = false := fun k => by
    simp only [Array.getD_eq_getD_getElem?]
    rcases Nat.lt_or_ge k n with h | h
    · rw [Array.getElem?_eq_getElem (by simpa using h)]; simp
    · rw [Array.getElem?_eq_none (by simpa using h)]; rfl
  unfold Stages
  rw [h ks, h ka]; simp
theorem Stages.cell {W : World} {o1 o2 : Obj} {ka ks : Nat} {L : Array Bool} {w : World} (h : Stages W o1 o2 ka ks L w) {b o : Nat} (hb : b < W.heap.size) : w.cell? ⟨b, o, none⟩ = W.cell? ⟨b, o, none⟩ := by
  unfold Stages at h
  split at h
  · rw [h.2]; exact World.cell?_alloc_lt W _ ⟨b, o, none⟩ hb
  · split at h
    · subst h; exact World.cell?_alloc_lt W _ ⟨b, o, none⟩ hb
    · rw [h]
theorem Stages.atAlloc {W : World} {o1 o2 : Obj} {ka ks : Nat} {L : Array Bool} {w : World} (h : Stages W o1 o2 ka ks L w) (hk : L.getD ka true = false) : W = w ∧ L.getD ks false = false := by
  unfold Stages at h
  have h0 := getD_false L ka hk
  split at h
  · rw [h0] at h; simp at h
  · rename_i hs
    rw [h0] at h
    exact ⟨by simpa using h.symm, by simpa using hs⟩
theorem Stages.atStore {W : World} {o1 o2 : Obj} {ka ks : Nat} {L : Array Bool} {w : World} (h : Stages W o1 o2 ka ks L w) (hk : L.getD ks true = false) (ha : L.getD ka false = true) : W.alloc o1 = w := by
  unfold Stages at h
  rw [getD_false L ks hk, ha] at h
  simpa using h.symm
theorem Stages.afterAlloc {W : World} {o1 o2 : Obj} {ka ks : Nat} {L : Array Bool} (hne : ka ≠ ks) (hk : L.getD ka true = false) (hs : L.getD ks false = false) : Stages W o1 o2 ka ks (L.setIfInBounds ka true) (W.alloc o1) := by
  unfold Stages
  rw [getD_set_ne L ka ks hne, hs, getD_set_eq L ka hk]; simp
theorem Stages.afterStore {W : World} {o1 o2 : Obj} {ka ks : Nat} {L : Array Bool} (hne : ks ≠ ka) (hk : L.getD ks true = false) (ha : L.getD ka false = true) : Stages W o1 o2 ka ks (L.setIfInBounds ks true) (W.alloc o2) := by
  unfold Stages
  rw [getD_set_eq L ks hk, getD_set_ne L ks ka hne, ha]; simp
theorem Stages.end_ {W : World} {o1 o2 : Obj} {ka ks : Nat} {L : Array Bool} {w : World} (h : Stages W o1 o2 ka ks L w) (hs : L.getD ks false = true) : W.alloc o2 = w := by
  unfold Stages at h
  rw [hs] at h
  exact (by simpa using h : L.getD ka false = true ∧ w = W.alloc o2).2.symm
end Go.Proofs.YtdldochhondifaaGreatDoor
namespace Go.Proofs.YtdldochhondifaaGreatDoor
open Go

section
variable {P : Program}
/-- Operation k has yielded u. -/
def upd (σ : Nat → Option Value) (k : Nat) (u : Value) : Nat → Option Value := fun j => if j = k then some u else σ j
theorem upd_same (σ : Nat → Option Value) (k : Nat) (u : Value) : upd σ k u k = some u := by simp [upd]
theorem upd_ne {σ : Nat → Option Value} {k : Nat} {u : Value} {j : Nat} (h : j ≠ k) : upd σ k u j = σ j := by simp [upd, h]
/-- What an operation comes to, said by R. -/
def uponR (P : Program) (R : Value → World → Prop) : Result Next → Prop
  | .ok (.value u) w' => R u w'
  | .ok .skip w' => R undef w'
  | .ok (.enter f args) w' => Calls P f args w' (fun e w'' => ∃ u, e = .returned u ∧ R u w'')
  | _ => False
/-- The frame when the operations that σ names have yielded. -/
def putO (σ : Nat → Option Value) : List Oper → Nat → Act → Act
  | [], _, a => a
  | o :: l, k, a => putO σ l (k + 1) (match σ k with
    | some u => a.put o.dst u
    | none => a)
theorem putO_none {σ : Nat → Option Value} : ∀ (l : List Oper) (k : Nat) (a : Act), (∀ j, k ≤ j → σ j = none) → putO σ l k a = a
  | [], _, _, _ => rfl
  | o :: l, k, a, h => by
    simp only [putO, h k (Nat.le_refl _)]
    exact putO_none l (k + 1) a fun j hj => h j (by omega)
theorem putO_congr {σ τ : Nat → Option Value} : ∀ (l : List Oper) (k : Nat) (a : Act), (∀ j, k ≤ j → j < k + l.length → σ j = τ j) → putO σ l k a = putO τ l k a
  | [], _, _, _ => rfl
  | o :: l, k, a, h => by
    simp only [putO, h k (Nat.le_refl _) (by simp)]
    exact putO_congr l (k + 1) _ fun j hj hj2 => h j (by omega) (by simp; omega)
theorem putO_slot {σ τ : Nat → Option Value} (d : Tmp) : ∀ (l : List Oper) (k : Nat) (a a' : Act), a.tmps[d]? = a'.tmps[d]? →
    (∀ (j : Nat) (o : Oper), l[j]? = some o → o.dst = some d → σ (k + j) = τ (k + j)) → (putO σ l k a).tmps[d]? = (putO τ l k a').tmps[d]?
  | [], _, _, _, h, _ => h
  | o :: l, k, a, a', h, hs => by
    simp only [putO]
    refine putO_slot d l (k + 1) _ _ ?_ (fun j o' h1 h2 => by have := hs (j + 1) o' (by simpa using h1) h2; rwa [show k + (j + 1) = k + 1 + j from by omega] at this)
    by_cases hd : o.dst = some d
    · have := hs 0 o rfl hd
      simp only [Nat.add_zero] at this
      rw [this]
      cases τ k with
      | none => exact h
      | some u => exact put_slot _ _ _ _ _ h
    · cases σ k <;> cases τ k <;> simp only [put_slot_ne _ _ _ _ hd] <;> exact h
theorem putO_put {σ : Nat → Option Value} {dst : Option Tmp} {v : Value} : ∀ (l : List Oper) (k : Nat) (a : Act),
    (∀ o, o ∈ l → ∀ d, dst = some d → o.dst ≠ some d) → putO σ l k (a.put dst v) = (putO σ l k a).put dst v
  | [], _, _, _ => rfl
  | o :: l, k, a, h => by
    simp only [putO]
    have ih := fun a' => putO_put (σ := σ) (dst := dst) (v := v) l (k + 1) a' fun o' ho' => h o' (by simp [ho'])
    cases σ k with
    | some u =>
      simp only
      rw [Act.put_comm a v u (h o (by simp))]
      exact ih _
    | none => exact ih _
theorem putO_set {σ τ : Nat → Option Value} : ∀ (l : List Oper) (k : Nat) (a : Act) (i : Nat) (o : Oper) (v : Value), l[i]? = some o → σ (k + i) = none → τ (k + i) = some v →
    (∀ j, j ≠ k + i → τ j = σ j) → (∀ (j : Nat) (o' : Oper), l[j]? = some o' → j ≠ i → ∀ d, o.dst = some d → o'.dst ≠ some d) →
    (putO σ l k a).put o.dst v = putO τ l k a
  | [], _, _, i, o, v, h, _, _, _, _ => by simp at h
  | x :: l, k, a, 0, o, v, h1, h3, h4, h5, h6 => by
    simp only [List.getElem?_cons_zero, Option.some.injEq] at h1
    subst h1
    simp only [Nat.add_zero] at h3 h4
    simp only [putO, h3, h4]
    rw [putO_put l (k + 1) a fun o' ho' => by
      obtain ⟨j, hj⟩ := List.mem_iff_getElem?.1 ho'
      exact h6 (j + 1) o' (by simpa using hj) (by omega)]
    rw [putO_congr l (k + 1) a fun j hj _ => (h5 j (by omega)).symm]
  | x :: l, k, a, i + 1, o, v, h1, h3, h4, h5, h6 => by
    simp only [List.getElem?_cons_succ] at h1
    have e : k + (i + 1) = k + 1 + i := by omega
    simp only [putO]
    rw [h5 k (by omega)]
    exact putO_set l (k + 1) _ i o v h1 (e ▸ h3) (e ▸ h4) (fun j hj => h5 j (by omega)) fun j o' hj hne => h6 (j + 1) o' (by simpa using hj) (by omega)

/-- What an operation waits for has been done. -/
def Closed (l : List Oper) (σ : Nat → Option Value) : Prop := ∀ (j : Nat) (o : Oper), l[j]? = some o → (σ j).isSome = true → ∀ e, e ∈ o.after.toList → Region.binds .any e = true → (σ e.on).isSome = true
/-- Each operation, whenever it comes up, keeps C. -/
def Keeps (P : Program) (l : List Oper) (a : Act) (C : (Nat → Option Value) → World → Prop) (k : Nat) (o : Oper) : Prop :=
  ∀ (σ : Nat → Option Value) (vs : Nat → Value) (w : World), (∀ j u, σ j = some u → u = vs j) → Closed l σ → C σ w → σ k = none →
    (∀ e, e ∈ o.after.toList → Region.binds .any e = true → σ e.on = some (vs e.on)) →
    uponR P (fun u w' => C (upd σ k u) w') ((execOp (putO (fun j => some (vs j)) l 0 a).eval o).run P w)

theorem wpAny_inv {ops : Array Oper} {l : List Oper} (hl : ops = l.toArray) {C : (Nat → Option Value) → World → Prop} {Q : Exit → Act → World → Prop} {a : Act} (hB : lexOk ops = true)
    (hv : ∀ (i : Nat) (o : Oper), l[i]? = some o → o.guard = none ∧ Keeps P l a C i o)
    (hq : ∀ (σ : Nat → Option Value) (vs : Nat → Value) (w' : World), C σ w' → (∀ j, j < l.length → σ j = some (vs j)) → Q .normal (putO (fun j => some (vs j)) l 0 a) w') :
    ∀ (fuel : Nat) (L : Array Bool) (σ : Nat → Option Value) (w' : World), L.size = l.length → (∀ j, L.getD j false = (σ j).isSome) → Closed l σ → leftN (fun j => L.getD j false) l.length ≤ fuel → C σ w' →
      wpAny P .any ops Q fuel L (putO σ l 0 a) w' := by
  have hops : ∀ i : Nat, ops[i]? = l[i]? := fun i => by rw [hl]; simp
  have hsz : ops.size = l.length := by rw [hl]; simp
  have hsel := Region.noSelect_spec (ops := ops) (by unfold lexOk at hB; exact (Bool.and_eq_true_iff.1 hB).1)
  have hall : ∀ (L : Array Bool) (σ : Nat → Option Value) (w' : World), (∀ j, L.getD j false = (σ j).isSome) → C σ w' → (∀ j, j < l.length → L.getD j false = true) → Q .normal (putO σ l 0 a) w' := fun L σ w' hs hC hL => by
    have h : ∀ j, j < l.length → σ j = some ((σ j).getD undef) := fun j hj => by
      have := hL j hj
      rw [hs j] at this
      cases h : σ j with
      | none => rw [h] at this; cases this
      | some u => rfl
    rw [putO_congr (τ := fun j => some ((σ j).getD undef)) l 0 a fun j _ hj => h j (by omega)]
    exact hq σ _ w' hC h
  have mem_ready : ∀ (L : Array Bool) (i : Nat), i ∈ Region.ready .any ops L ↔ i < l.length ∧ L.getD i true = false ∧ ∃ o, l[i]? = some o ∧ ∀ e, e ∈ o.after.toList → Region.binds .any e = true → L.getD e.on false = true := by
    intro L i
    unfold Region.ready
    rw [List.mem_filter, List.mem_range, hsz]
    refine ⟨fun ⟨h1, h2⟩ => ⟨h1, ?_⟩, fun ⟨h1, h2, o, h3, h4⟩ => ⟨h1, ?_⟩⟩
    · simp only [Bool.and_eq_true, Bool.not_eq_true'] at h2
      refine ⟨h2.1, ?_⟩
      have h3 := h2.2
      rw [hops] at h3
      cases ho : l[i]? with
      | none => rw [ho] at h3; simp at h3
      | some o =>
        rw [ho] at h3
        refine ⟨o, rfl, fun e he hb => ?_⟩
        simp only [Option.map_some, Option.getD_some] at h3
        have := Array.all_eq_true_iff_forall_mem.1 h3 e (by simpa using he)
        simpa [hb] using this
    · simp only [Bool.and_eq_true, Bool.not_eq_true']
      refine ⟨h2, ?_⟩
      rw [hops, h3]
      simp only [Option.map_some, Option.getD_some]
      rw [Array.all_eq_true_iff_forall_mem]
      intro e he
      by_cases hb : Region.binds .any e = true
      · simp [hb, h4 e (by simpa using he) hb]
      · simp [hb]
  have getD_true : ∀ (L : Array Bool) (i : Nat), L.size = l.length → i < l.length → L.getD i true = L.getD i false := fun L i h1 h2 => by
    simp [Array.getD, h1, h2]
  have none_ready : ∀ (L : Array Bool), L.size = l.length → Region.ready .any ops L = [] → ∀ j, j < l.length → L.getD j false = true := by
    intro L hLs hr
    intro j
    induction j using Nat.strongRecOn with
    | ind j ih =>
      intro hj
      by_cases h : L.getD j false = true
      · exact h
      · exfalso
        have hmem : j ∈ Region.ready .any ops L := by
          rw [mem_ready]
          have hlj : l[j]? = some l[j] := List.getElem?_eq_getElem hj
          refine ⟨hj, by rw [getD_true L j hLs hj]; simpa using h, l[j], hlj, fun e he hb => ?_⟩
          have hlt := (lexOk_spec hB j l[j] (by rw [hops, hlj])).1 e he hb
          exact ih e.on hlt (by omega)
        rw [hr] at hmem
        cases hmem
  intro fuel
  induction fuel with
  | zero =>
    intro L σ w' hLs hs hcl hf hC
    have hl0 := leftN_zero l.length (by omega : leftN (fun j => L.getD j false) l.length = 0)
    refine ⟨?_, hall L σ w' hs hC hl0⟩
    rw [List.eq_nil_iff_forall_not_mem]
    intro i hi
    rw [mem_ready] at hi
    have := hl0 i hi.1
    rw [← getD_true L i hLs hi.1, hi.2.1] at this
    cases this
  | succ fuel ih =>
    intro L σ w' hLs hs hcl hf hC
    refine ⟨fun hr => hall L σ w' hs hC (none_ready L hLs hr), fun i hi => ?_⟩
    rw [mem_ready] at hi
    obtain ⟨hil, hLi, o, ho, hdep⟩ := hi
    obtain ⟨hgd, hK⟩ := hv i o ho
    have hLi' : L.getD i false = false := by rw [← getD_true L i hLs hil]; exact hLi
    have hσi : σ i = none := by
      have := hs i
      rw [hLi'] at this
      cases h : σ i with
      | none => rfl
      | some u => rw [h] at this; cases this
    have hset : ∀ j : Nat, (L.setIfInBounds i true).getD j false = if j = i then true else L.getD j false := by
      intro j
      simp only [Array.getD_eq_getD_getElem?]
      by_cases e : j = i
      · subst e; rw [Array.getElem?_setIfInBounds]; simp [hLs, hil]
      · rw [Array.getElem?_setIfInBounds_ne (fun h => e h.symm)]; simp [e]
    have goon : ∀ (u : Value) (w'' : World), C (upd σ i u) w'' → wpAny P .any ops Q fuel (L.setIfInBounds i true) ((putO σ l 0 a).put o.dst u) w'' := by
      intro u w'' hC'
      rw [putO_set (σ := σ) (τ := upd σ i u) l 0 a i o u ho (by rw [Nat.zero_add]; exact hσi) (by rw [Nat.zero_add]; exact upd_same _ _ _)
        (fun j hj => upd_ne (by omega)) (fun j o' hj hne d hd hd' => (((lexOk_spec hB i o (by rw [hops, ho])).2 j o' d (by rw [hops, hj]) hd').1 (fun e => hne e.symm)) hd)]
      refine ih _ _ w'' (by simp [hLs]) (fun j => ?_) (fun j o' hj hjs e he hb => ?_) ?_ hC'
      · rw [hset]
        unfold upd
        split
        · rfl
        · exact hs j
      · unfold upd at hjs ⊢
        split
        · rfl
        · by_cases hji : j = i
          · subst hji
            rw [ho] at hj
            cases hj
            rw [← hs]
            exact hdep e he hb
          · rw [if_neg hji] at hjs
            exact hcl j o' hj hjs e he hb
      · have := leftN_set (S := fun j => L.getD j false) (S' := fun j => (L.setIfInBounds i true).getD j false) (i := i) hLi' (by rw [hset]; simp) (fun j hj => by rw [hset, if_neg hj]) l.length hil
        omega
    have hdep' : ∀ e, e ∈ o.after.toList → Region.binds .any e = true → σ e.on = some ((fun j => (σ j).getD undef) e.on) := fun e he hb => by
      have := hdep e he hb
      rw [hs] at this
      simp only
      cases h : σ e.on with
      | none => rw [h] at this; cases this
      | some u => rfl
    have hsame : ∀ d, d ∈ o.looksAt ops → (putO σ l 0 a).tmps[d]? = (putO (fun j => some ((σ j).getD undef)) l 0 a).tmps[d]? := by
      intro d hd
      refine putO_slot d l 0 a a rfl fun j oj hj hjd => ?_
      obtain ⟨h1, e, he, hb, hon⟩ := ((lexOk_spec hB i o (by rw [hops, ho])).2 j oj d (by rw [hops, hj]) hjd).2 hd
      have := hdep' e he hb
      rw [hon] at this
      simp only [Nat.zero_add]
      exact this
    have hexec : execOp (putO σ l 0 a).eval o = execOp (putO (fun j => some ((σ j).getD undef)) l 0 a).eval o := by
      refine execOp_congr o (fun cs b => hsel i o cs b (by rw [hops, ho])) fun x hx => ?_
      cases x with
      | tmp t =>
        have := hsame t (by unfold Oper.looksAt; exact List.mem_append_left _ (List.mem_filterMap.2 ⟨.tmp t, by simpa using hx, rfl⟩))
        generalize putO σ l 0 a = A at this ⊢
        generalize putO (fun j => some ((σ j).getD undef)) l 0 a = A' at this ⊢
        simp only [Act.eval, Array.getD_eq_getD_getElem?, this]
      | const v => rfl
      | global g => rfl
      | func f => rfl
    have h3 := hK σ (fun j => (σ j).getD undef) w' (fun j u h => by rw [h]; rfl) hcl hC hσi hdep'
    unfold wpOp
    rw [hops, ho]
    simp only
    rw [if_pos (by simp [Region.wanted, hgd])]
    refine .inl ?_
    unfold Oper.wp
    rw [hexec]
    generalize (execOp (putO (fun j => some ((σ j).getD undef)) l 0 a).eval o).run P w' = r at h3 ⊢
    cases r with
    | ok n w'' =>
      cases n <;> simp only [uponR] at h3 <;> simp only [Oper.upon]
      case value u => exact goon _ _ h3
      case skip => exact goon _ _ h3
      case enter f args => exact h3.mono fun e w3 ⟨u, he, hC3⟩ => by subst he; exact goon _ _ hC3
    | halt x w'' => simp only [uponR] at h3

theorem wp_region_inv {id : Nat} {l : List Oper} {Q : Exit → Act → World → Prop} {a : Act} {w : World} (C : (Nat → Option Value) → World → Prop) (hm : P.follows .mixedOrders = true) (hB : lexOk l.toArray = true)
    (h0 : C (fun _ => none) { w with drawn := w.drawn + 1 })
    (hv : ∀ (i : Nat) (o : Oper), l[i]? = some o → o.guard = none ∧ Keeps P l a C i o)
    (hq : ∀ (σ : Nat → Option Value) (vs : Nat → Value) (w' : World), C σ w' → (∀ j, j < l.length → σ j = some (vs j)) → Q .normal (putO (fun j => some (vs j)) l 0 a) w') : (Code.region id l.toArray true).wp P Q a w := by
  refine wp_region_any hm ?_
  have h1 := wpAny_inv (ops := l.toArray) rfl hB hv hq l.length (Array.replicate l.length false) (fun _ => none) _ (by simp) (fun j => by
    simp only [Array.getD_eq_getD_getElem?]
    rcases Nat.lt_or_ge j l.length with h | h
    · rw [Array.getElem?_eq_getElem (by simpa using h)]; simp
    · rw [Array.getElem?_eq_none (by simpa using h)]; rfl) (fun j o hj h => by cases h) (by rw [leftN_rep _ _ (Nat.le_refl _)]; exact Nat.le_refl _) h0
  rw [putO_none _ _ _ (fun j _ => rfl)] at h1
  simpa using h1
/-- The operations one by one. -/
def KeepsAll (P : Program) (l : List Oper) (a : Act) (C : (Nat → Option Value) → World → Prop) : List Oper → Nat → Prop
  | [], _ => True
  | o :: r, k => (o.guard = none ∧ Keeps P l a C k o) ∧ KeepsAll P l a C r (k + 1)
theorem keeps_of_all {l : List Oper} {a : Act} {C : (Nat → Option Value) → World → Prop} : ∀ (r : List Oper) (k : Nat), KeepsAll P l a C r k → ∀ (i : Nat) (o : Oper), r[i]? = some o → o.guard = none ∧ Keeps P l a C (k + i) o
  | [], _, _, i, o, h => by simp at h
  | x :: r, k, ⟨h1, _⟩, 0, o, h => by simp at h; subst h; exact h1
  | x :: r, k, ⟨_, h2⟩, i + 1, o, h => by
    have := keeps_of_all r (k + 1) h2 i o (by simpa using h)
    rwa [show k + 1 + i = k + (i + 1) by omega] at this
theorem wp_region_keeps {id : Nat} {l : List Oper} {Q : Exit → Act → World → Prop} {a : Act} {w : World} (C : (Nat → Option Value) → World → Prop) (hm : P.follows .mixedOrders = true) (hB : lexOk l.toArray = true)
    (h0 : C (fun _ => none) { w with drawn := w.drawn + 1 }) (hv : KeepsAll P l a C l 0)
    (hq : ∀ (σ : Nat → Option Value) (vs : Nat → Value) (w' : World), C σ w' → (∀ j, j < l.length → σ j = some (vs j)) → Q .normal (putO (fun j => some (vs j)) l 0 a) w') : (Code.region id l.toArray true).wp P Q a w :=
  wp_region_inv C hm hB h0 (fun i o h => by have := keeps_of_all l 0 hv i o h; rwa [Nat.zero_add] at this) hq
end
/-- What waits for an operation that is to come is to come. -/
theorem not_done {l : List Oper} {σ : Nat → Option Value} (h : Closed l σ) {k j : Nat} {o : Oper} (hk : σ k = none) (ho : l[j]? = some o) (hd : (o.after.toList.any fun e => e.on == k && Region.binds .any e) = true) : σ j = none := by
  cases hj : σ j with
  | none => rfl
  | some u =>
    exfalso
    obtain ⟨e, he, h2⟩ := List.any_eq_true.1 hd
    simp only [Bool.and_eq_true, beq_iff_eq] at h2
    have := h j o ho (by rw [hj]; rfl) e he h2.2
    rw [h2.1, hk] at this
    cases this
end Go.Proofs.YtdldochhondifaaGreatDoor
namespace Go.Proofs.YtdldochhondifaaGreatDoor
open Go.RowKit

section
variable {P : Program}
/-- An operation that is passed over keeps C. -/
def Skips (l : List Oper) (C : (Nat → Option Value) → World → Prop) (k : Nat) : Prop := ∀ σ w, Closed l σ → C σ w → σ k = none → C (upd σ k undef) w
/-- .. each operation: without a guard, or with one whose word is known. -/
def KeepsG (P : Program) (l : List Oper) (a : Act) (C : (Nat → Option Value) → World → Prop) (k : Nat) (o : Oper) : Prop :=
  (o.guard = none ∧ Keeps P l a C k o) ∨ ∃ (g : Nat) (b c : Bool) (og : Oper) (d : Tmp), o.guard = some (g, b) ∧ l[g]? = some og ∧ og.dst = some d ∧ d < a.tmps.size ∧ (∃ e ∈ o.after.toList, Region.binds .any e = true ∧ e.on = g) ∧
    (∀ σ w u, Closed l σ → C σ w → σ k = none → σ g = some u → u = .bool c) ∧ ((c = b ∧ Keeps P l a C k o) ∨ (c ≠ b ∧ Skips l C k))
/-- A guarded operation that is wanted. -/
theorem KeepsG.want {l : List Oper} {a : Act} {C : (Nat → Option Value) → World → Prop} {k : Nat} {o : Oper} (g : Nat) (b : Bool) (og : Oper) (d : Tmp) (hg : o.guard = some (g, b)) (h1 : l[g]? = some og) (h2 : og.dst = some d) (h3 : d < a.tmps.size)
    (h4 : (o.after.toList.any fun e => Region.binds .any e && e.on == g) = true) (h5 : ∀ σ w u, Closed l σ → C σ w → σ k = none → σ g = some u → u = .bool b) (h : Keeps P l a C k o) : KeepsG P l a C k o := by
  obtain ⟨e, he, h6⟩ := List.any_eq_true.1 h4
  simp only [Bool.and_eq_true, beq_iff_eq] at h6
  exact .inr ⟨g, b, b, og, d, hg, h1, h2, h3, ⟨e, he, h6.1, h6.2⟩, h5, .inl ⟨rfl, h⟩⟩
/-- A guarded operation that is passed over. -/
theorem KeepsG.skip {l : List Oper} {a : Act} {C : (Nat → Option Value) → World → Prop} {k : Nat} {o : Oper} (g : Nat) (b : Bool) (og : Oper) (d : Tmp) (hg : o.guard = some (g, b)) (h1 : l[g]? = some og) (h2 : og.dst = some d) (h3 : d < a.tmps.size)
    (h4 : (o.after.toList.any fun e => Region.binds .any e && e.on == g) = true) (h5 : ∀ σ w u, Closed l σ → C σ w → σ k = none → σ g = some u → u = .bool (!b)) (h : Skips l C k) : KeepsG P l a C k o := by
  obtain ⟨e, he, h6⟩ := List.any_eq_true.1 h4
  simp only [Bool.and_eq_true, beq_iff_eq] at h6
  exact .inr ⟨g, b, !b, og, d, hg, h1, h2, h3, ⟨e, he, h6.1, h6.2⟩, h5, .inr ⟨by cases b <;> simp, h⟩⟩
/-- All values are known ahead; what lay before stands. -/
def KnownRun (pv : Nat → Option Value) (w0 : World) (σ : Nat → Option Value) (w : World) : Prop := Below w0.heap.size w0 w ∧ ∀ j v, pv j = some v → ∀ u, σ j = some u → u = v
variable {pv : Nat → Option Value} {w0 : World} {σ : Nat → Option Value} {w w' : World}
theorem KnownRun.start (h : Below w0.heap.size w0 w) : KnownRun pv w0 (fun _ => none) w := ⟨h, by simp⟩
theorem KnownRun.low (h : KnownRun pv w0 σ w) : Below w0.heap.size w0 w := h.1
theorem KnownRun.val (h : KnownRun pv w0 σ w) {k : Nat} {u v : Value} (hu : σ k = some u) (hp : pv k = some v) : u = v := h.2 k v hp u hu
theorem KnownRun.say (h : KnownRun pv w0 σ w) {k : Nat} {v : Value} (hk : pv k = some v) (hb : Below w.heap.size w w') : KnownRun pv w0 (upd σ k v) w' := by
  refine ⟨h.1.trans (hb.mono h.1.size), fun j v' hj u hu => ?_⟩
  by_cases e : j = k
  · subst e
    rw [upd_same] at hu
    rw [hk] at hj
    cases hj
    cases hu
    rfl
  · rw [upd_ne e] at hu
    exact h.2 j v' hj u hu
theorem KnownRun.skip (l : List Oper) {k : Nat} (hk : pv k = some undef) : Skips l (KnownRun pv w0) k := fun _ _ _ h _ => h.say hk (Below.refl _ _)
end
end Go.Proofs.YtdldochhondifaaGreatDoor
