/-
  A region that draws its order, where a slot that operations read is written by one that waits for them.
  Conditions: 'lexLate', by the kernel.
-/
import Derived.Test.YtdldochhondifaaDoorIng
namespace Go.Proofs.YtdldochhondifaaDoor
open Go

section
variable {P : Program}
/-- Operation j waits for operation k. -/
def lateO (l : List Oper) (k j : Nat) : Bool := match l[j]? with
  | some o => o.after.toList.any fun e => e.on == k && Region.binds .any e
  | none => false
/-- The region's edges order each operation behind, or ahead of, those that write the slots it reads. -/
def lexLate (ops : Array Oper) : Bool := Region.noSelect ops && (List.range ops.size).all fun i => match ops[i]? with
  | some oi => (oi.after.toList.all fun e => !Region.binds .any e || decide (e.on < i)) && (List.range ops.size).all fun j => match ops[j]? with
    | some oj => (match oj.dst with
      | some d => (i == j || oi.dst != some d) && (!(oi.looksAt ops).contains d || (oi.after.toList.any fun e => Region.binds .any e && e.on == j) || (oj.after.toList.any fun e => Region.binds .any e && e.on == i))
      | none => true)
    | none => true
  | none => true
theorem lexLate_spec {ops : Array Oper} (h : lexLate ops = true) (i : Nat) (oi : Oper) (hi : ops[i]? = some oi) :
    (∀ e, e ∈ oi.after.toList → Region.binds .any e = true → e.on < i) ∧
    ∀ (j : Nat) (oj : Oper) (d : Tmp), ops[j]? = some oj → oj.dst = some d → (i ≠ j → oi.dst ≠ some d) ∧
      (d ∈ oi.looksAt ops → (∃ e, e ∈ oi.after.toList ∧ Region.binds .any e = true ∧ e.on = j) ∨ ∃ e, e ∈ oj.after.toList ∧ Region.binds .any e = true ∧ e.on = i) := by
  unfold lexLate at h
  rw [Bool.and_eq_true, List.all_eq_true] at h
  have hi' : i < ops.size := by
    rcases Nat.lt_or_ge i ops.size with h' | h'
    · exact h'
    · rw [Array.getElem?_eq_none h'] at hi; cases hi
  have h1 := h.2 i (List.mem_range.2 hi')
  simp only [hi, Bool.and_eq_true, List.all_eq_true] at h1
  refine ⟨fun e he hb => ?_, fun j oj d hj hd => ?_⟩
  · have := h1.1 e he
    simpa [hb] using this
  · have hj' : j < ops.size := by
      rcases Nat.lt_or_ge j ops.size with h' | h'
      · exact h'
      · rw [Array.getElem?_eq_none h'] at hj; cases hj
    have h2 := h1.2 j (List.mem_range.2 hj')
    simp only [hj, hd, Bool.and_eq_true, Bool.or_eq_true] at h2
    refine ⟨fun hne => ?_, fun hm => ?_⟩
    · rcases h2.1 with h3 | h3
      · exact absurd (by simpa using h3) hne
      · simpa using h3
    · rcases h2.2 with (h3 | h3) | h3
      · simp at h3; exact absurd hm h3
      · obtain ⟨e, he, h4⟩ := List.any_eq_true.1 h3
        simp only [Bool.and_eq_true, beq_iff_eq] at h4
        exact .inl ⟨e, he, h4⟩
      · obtain ⟨e, he, h4⟩ := List.any_eq_true.1 h3
        simp only [Bool.and_eq_true, beq_iff_eq] at h4
        exact .inr ⟨e, he, h4⟩
/-- Each operation, whenever it comes up, keeps C; what waits for it has not been done. -/
structure KeepsL (P : Program) (l : List Oper) (a : Act) (C : (Nat → Option Value) → World → Prop) (k : Nat) (o : Oper) : Prop where
  of ::
  run : ∀ (σ : Nat → Option Value) (vs : Nat → Value) (w : World), (∀ j u, σ j = some u → u = vs j) → Closed l σ → C σ w → σ k = none →
    (∀ e, e ∈ o.after.toList → Region.binds .any e = true → σ e.on = some (vs e.on)) →
    uponR P (fun u w' => C (upd σ k u) w') ((execOp (putO (fun j => if lateO l k j = true then none else some (vs j)) l 0 a).eval o).run P w)
theorem wpAny_late {ops : Array Oper} {l : List Oper} (hl : ops = l.toArray) {C : (Nat → Option Value) → World → Prop} {Q : Exit → Act → World → Prop} {a : Act} (hB : lexLate ops = true)
    (hv : ∀ (i : Nat) (o : Oper), l[i]? = some o → o.guard = none ∧ KeepsL P l a C i o)
    (hq : ∀ (σ : Nat → Option Value) (vs : Nat → Value) (w' : World), C σ w' → (∀ j, j < l.length → σ j = some (vs j)) → Q .normal (putO (fun j => some (vs j)) l 0 a) w') :
    ∀ (fuel : Nat) (L : Array Bool) (σ : Nat → Option Value) (w' : World), L.size = l.length → (∀ j, L.getD j false = (σ j).isSome) → Closed l σ → leftN (fun j => L.getD j false) l.length ≤ fuel → C σ w' →
      wpAny P .any ops Q fuel L (putO σ l 0 a) w' := by
  have hops : ∀ i : Nat, ops[i]? = l[i]? := fun i => by rw [hl]; simp
  have hsz : ops.size = l.length := by rw [hl]; simp
  have hsel := Region.noSelect_spec (ops := ops) (by unfold lexLate at hB; exact (Bool.and_eq_true_iff.1 hB).1)
  have hall : ∀ (L : Array Bool) (σ : Nat → Option Value) (w' : World), (∀ j, L.getD j false = (σ j).isSome) → C σ w' → (∀ j, j < l.length → L.getD j false = true) → Q .normal (putO σ l 0 a) w' := fun L σ w' hs hC hL => by
    have h : ∀ j, j < l.length → σ j = some ((σ j).getD undef) := fun j hj => by
      have := hL j hj
      rw [hs j] at this
      cases h : σ j with
      | none => rw [h] at this; cases this
      | some u => rfl
    rw [putO_congr (τ := fun j => some ((σ j).getD undef)) l 0 a fun j _ hj => h j (by omega)]
    exact hq σ _ w' hC h
  have mem_ready : ∀ (L : Array Bool) (i : Nat), i ∈ Region.ready .any ops L ↔ i < l.length ∧ L.getD i true = false ∧ ∃ o, l[i]? = some o ∧ ∀ e, e ∈ o.after.toList → Region.binds .any e = true → L.getD e.on false = true := by
    intro L i
    unfold Region.ready
    rw [List.mem_filter, List.mem_range, hsz]
    refine ⟨fun ⟨h1, h2⟩ => ⟨h1, ?_⟩, fun ⟨h1, h2, o, h3, h4⟩ => ⟨h1, ?_⟩⟩
    · simp only [Bool.and_eq_true, Bool.not_eq_true'] at h2
      refine ⟨h2.1, ?_⟩
      have h3 := h2.2
      rw [hops] at h3
      cases ho : l[i]? with
      | none => rw [ho] at h3; simp at h3
      | some o =>
        rw [ho] at h3
        refine ⟨o, rfl, fun e he hb => ?_⟩
        simp only [Option.map_some, Option.getD_some] at h3
        have := Array.all_eq_true_iff_forall_mem.1 h3 e (by simpa using he)
        simpa [hb] using this
    · simp only [Bool.and_eq_true, Bool.not_eq_true']
      refine ⟨h2, ?_⟩
      rw [hops, h3]
      simp only [Option.map_some, Option.getD_some]
      rw [Array.all_eq_true_iff_forall_mem]
      intro e he
      by_cases hb : Region.binds .any e = true
      · simp [hb, h4 e (by simpa using he) hb]
      · simp [hb]
  have getD_true : ∀ (L : Array Bool) (i : Nat), L.size = l.length → i < l.length → L.getD i true = L.getD i false := fun L i h1 h2 => by
    simp [Array.getD, h1, h2]
  have none_ready : ∀ (L : Array Bool), L.size = l.length → Region.ready .any ops L = [] → ∀ j, j < l.length → L.getD j false = true := by
    intro L hLs hr
    intro j
    induction j using Nat.strongRecOn with
    | ind j ih =>
      intro hj
      by_cases h : L.getD j false = true
      · exact h
      · exfalso
        have hmem : j ∈ Region.ready .any ops L := by
          rw [mem_ready]
          have hlj : l[j]? = some l[j] := List.getElem?_eq_getElem hj
          refine ⟨hj, by rw [getD_true L j hLs hj]; simpa using h, l[j], hlj, fun e he hb => ?_⟩
          have hlt := (lexLate_spec hB j l[j] (by rw [hops, hlj])).1 e he hb
          exact ih e.on hlt (by omega)
        rw [hr] at hmem
        cases hmem
  intro fuel
  induction fuel with
  | zero =>
    intro L σ w' hLs hs hcl hf hC
    have hl0 := leftN_zero l.length (by omega : leftN (fun j => L.getD j false) l.length = 0)
    refine ⟨?_, hall L σ w' hs hC hl0⟩
    rw [List.eq_nil_iff_forall_not_mem]
    intro i hi
    rw [mem_ready] at hi
    have := hl0 i hi.1
    rw [← getD_true L i hLs hi.1, hi.2.1] at this
    cases this
  | succ fuel ih =>
    intro L σ w' hLs hs hcl hf hC
    refine ⟨fun hr => hall L σ w' hs hC (none_ready L hLs hr), fun i hi => ?_⟩
    rw [mem_ready] at hi
    obtain ⟨hil, hLi, o, ho, hdep⟩ := hi
    obtain ⟨hgd, hK⟩ := hv i o ho
    have hLi' : L.getD i false = false := by rw [← getD_true L i hLs hil]; exact hLi
    have hσi : σ i = none := by
      have := hs i
      rw [hLi'] at this
      cases h : σ i with
      | none => rfl
      | some u => rw [h] at this; cases this
    have hset : ∀ j : Nat, (L.setIfInBounds i true).getD j false = if j = i then true else L.getD j false := by
      intro j
      simp only [Array.getD_eq_getD_getElem?]
      by_cases e : j = i
      · subst e; rw [Array.getElem?_setIfInBounds]; simp [hLs, hil]
      · rw [Array.getElem?_setIfInBounds_ne (fun h => e h.symm)]; simp [e]
    have goon : ∀ (u : Value) (w'' : World), C (upd σ i u) w'' → wpAny P .any ops Q fuel (L.setIfInBounds i true) ((putO σ l 0 a).put o.dst u) w'' := by
      intro u w'' hC'
      rw [putO_set (σ := σ) (τ := upd σ i u) l 0 a i o u ho (by rw [Nat.zero_add]; exact hσi) (by rw [Nat.zero_add]; exact upd_same _ _ _)
        (fun j hj => upd_ne (by omega)) (fun j o' hj hne d hd hd' => (((lexLate_spec hB i o (by rw [hops, ho])).2 j o' d (by rw [hops, hj]) hd').1 (fun e => hne e.symm)) hd)]
      refine ih _ _ w'' (by simp [hLs]) (fun j => ?_) (fun j o' hj hjs e he hb => ?_) ?_ hC'
      · rw [hset]
        unfold upd
        split
        · rfl
        · exact hs j
      · unfold upd at hjs ⊢
        split
        · rfl
        · by_cases hji : j = i
          · subst hji
            rw [ho] at hj
            cases hj
            rw [← hs]
            exact hdep e he hb
          · rw [if_neg hji] at hjs
            exact hcl j o' hj hjs e he hb
      · have := leftN_set (S := fun j => L.getD j false) (S' := fun j => (L.setIfInBounds i true).getD j false) (i := i) hLi' (by rw [hset]; simp) (fun j hj => by rw [hset, if_neg hj]) l.length hil
        omega
    have hdep' : ∀ e, e ∈ o.after.toList → Region.binds .any e = true → σ e.on = some ((fun j => (σ j).getD undef) e.on) := fun e he hb => by
      have := hdep e he hb
      rw [hs] at this
      simp only
      cases h : σ e.on with
      | none => rw [h] at this; cases this
      | some u => rfl
    have hlate : ∀ j, lateO l i j = true → σ j = none := by
      intro j hj
      cases h : σ j with
      | none => rfl
      | some u =>
        exfalso
        unfold lateO at hj
        cases ho' : l[j]? with
        | none => rw [ho'] at hj; simp at hj
        | some o' =>
          rw [ho'] at hj
          simp only [List.any_eq_true, Bool.and_eq_true, beq_iff_eq] at hj
          obtain ⟨e, he, hon, hb⟩ := hj
          have := hcl j o' ho' (by rw [h]; rfl) e he hb
          rw [hon, hσi] at this
          cases this
    have hsame : ∀ d, d ∈ o.looksAt ops → (putO σ l 0 a).tmps[d]? = (putO (fun j => if lateO l i j = true then none else some ((σ j).getD undef)) l 0 a).tmps[d]? := by
      intro d hd
      refine putO_slot d l 0 a a rfl fun j oj hj hjd => ?_
      simp only [Nat.zero_add]
      by_cases hl' : lateO l i j = true
      · rw [if_pos hl']
        exact hlate j hl'
      · rw [if_neg hl']
        rcases ((lexLate_spec hB i o (by rw [hops, ho])).2 j oj d (by rw [hops, hj]) hjd).2 hd with ⟨e, he, hb, hon⟩ | ⟨e, he, hb, hon⟩
        · have := hdep' e he hb
          rw [hon] at this
          exact this
        · exfalso
          apply hl'
          unfold lateO
          rw [hj]
          simp only [List.any_eq_true, Bool.and_eq_true, beq_iff_eq]
          exact ⟨e, he, hon, hb⟩
    have hexec : execOp (putO σ l 0 a).eval o = execOp (putO (fun j => if lateO l i j = true then none else some ((σ j).getD undef)) l 0 a).eval o := by
      refine execOp_congr o (fun cs b => hsel i o cs b (by rw [hops, ho])) fun x hx => ?_
      cases x with
      | tmp t =>
        have := hsame t (by unfold Oper.looksAt; exact List.mem_append_left _ (List.mem_filterMap.2 ⟨.tmp t, by simpa using hx, rfl⟩))
        generalize putO σ l 0 a = A at this ⊢
        generalize putO (fun j => if lateO l i j = true then none else some ((σ j).getD undef)) l 0 a = A' at this ⊢
        simp only [Act.eval, Array.getD_eq_getD_getElem?, this]
      | const v => rfl
      | global g => rfl
      | func f => rfl
    have h3 := hK.run σ (fun j => (σ j).getD undef) w' (fun j u h => by rw [h]; rfl) hcl hC hσi hdep'
    unfold wpOp
    rw [hops, ho]
    simp only
    rw [if_pos (by simp [Region.wanted, hgd])]
    refine .inl ?_
    unfold Oper.wp
    rw [hexec]
    generalize (execOp (putO (fun j => if lateO l i j = true then none else some ((σ j).getD undef)) l 0 a).eval o).run P w' = r at h3 ⊢
    cases r with
    | ok n w'' =>
      cases n <;> simp only [uponR] at h3 <;> simp only [Oper.upon]
      case value u => exact goon _ _ h3
      case skip => exact goon _ _ h3
      case enter f args => exact h3.mono fun e w3 ⟨u, he, hC3⟩ => by subst he; exact goon _ _ hC3
    | halt x w'' => simp only [uponR] at h3

theorem wp_region_late {id : Nat} {l : List Oper} {Q : Exit → Act → World → Prop} {a : Act} {w : World} (C : (Nat → Option Value) → World → Prop) (hm : P.follows .mixedOrders = true) (hB : lexLate l.toArray = true)
    (h0 : C (fun _ => none) { w with drawn := w.drawn + 1 })
    (hv : ∀ (i : Nat) (o : Oper), l[i]? = some o → o.guard = none ∧ KeepsL P l a C i o)
    (hq : ∀ (σ : Nat → Option Value) (vs : Nat → Value) (w' : World), C σ w' → (∀ j, j < l.length → σ j = some (vs j)) → Q .normal (putO (fun j => some (vs j)) l 0 a) w') : (Code.region id l.toArray true).wp P Q a w := by
  refine wp_region_any hm ?_
  have h1 := wpAny_late (ops := l.toArray) rfl hB hv hq l.length (Array.replicate l.length false) (fun _ => none) _ (by simp) (fun j => by
    simp only [Array.getD_eq_getD_getElem?]
    rcases Nat.lt_or_ge j l.length with h | h
    · rw [Array.getElem?_eq_getElem (by simpa using h)]; simp
    · rw [Array.getElem?_eq_none (by simpa using h)]; rfl) (fun j o hj h => by cases h) (by rw [leftN_rep _ _ (Nat.le_refl _)]; exact Nat.le_refl _) h0
  rw [putO_none _ _ _ (fun j _ => rfl)] at h1
  simpa using h1
def KeepsAllL (P : Program) (l : List Oper) (a : Act) (C : (Nat → Option Value) → World → Prop) : List Oper → Nat → Prop
  | [], _ => True
  | o :: r, k => (o.guard = none ∧ KeepsL P l a C k o) ∧ KeepsAllL P l a C r (k + 1)
theorem keeps_of_allL {l : List Oper} {a : Act} {C : (Nat → Option Value) → World → Prop} : ∀ (r : List Oper) (k : Nat), KeepsAllL P l a C r k → ∀ (i : Nat) (o : Oper), r[i]? = some o → o.guard = none ∧ KeepsL P l a C (k + i) o
  | [], _, _, i, o, h => by simp at h
  | x :: r, k, ⟨h1, _⟩, 0, o, h => by simp at h; subst h; exact h1
  | x :: r, k, ⟨_, h2⟩, i + 1, o, h => by
    have := keeps_of_allL r (k + 1) h2 i o (by simpa using h)
    rwa [show k + 1 + i = k + (i + 1) by omega] at this
theorem wp_region_keepsL {id : Nat} {l : List Oper} {Q : Exit → Act → World → Prop} {a : Act} {w : World} (C : (Nat → Option Value) → World → Prop) (hm : P.follows .mixedOrders = true) (hB : lexLate l.toArray = true)
    (h0 : C (fun _ => none) { w with drawn := w.drawn + 1 }) (hv : KeepsAllL P l a C l 0)
    (hq : ∀ (σ : Nat → Option Value) (vs : Nat → Value) (w' : World), C σ w' → (∀ j, j < l.length → σ j = some (vs j)) → Q .normal (putO (fun j => some (vs j)) l 0 a) w') : (Code.region id l.toArray true).wp P Q a w :=
  wp_region_late C hm hB h0 (fun i o h => by have := keeps_of_allL l 0 hv i o h; rwa [Nat.zero_add] at this) hq
/-- What an operation yields, behind a name that no reckoning opens. -/
structure UponR (P : Program) (C : Value → World → Prop) (r : Result Next) : Prop where
  out : uponR P C r
theorem KeepsL.mk {l : List Oper} {a : Act} {C : (Nat → Option Value) → World → Prop} {k : Nat} {o : Oper} (lt : Nat → Bool) (h : ((List.range l.length).all fun j => lateO l k j == lt j) = true)
    (hk : ∀ (σ : Nat → Option Value) (vs : Nat → Value) (w : World), (∀ j u, σ j = some u → u = vs j) → Closed l σ → C σ w → σ k = none →
      (∀ e, e ∈ o.after.toList → Region.binds .any e = true → σ e.on = some (vs e.on)) →
      UponR P (fun u w' => C (upd σ k u) w') ((execOp (putO (fun j => if lt j = true then none else some (vs j)) l 0 a).eval o).run P w)) : KeepsL P l a C k o := by
  refine ⟨fun σ vs w h1 h2 h3 h4 h5 => ?_⟩
  rw [putO_congr (τ := fun j => if lt j = true then none else some (vs j)) l 0 a fun j _ hj => by
    have := List.all_eq_true.1 h j (List.mem_range.2 (by omega))
    rw [beq_iff_eq] at this
    simp only [this]]
  exact (hk σ vs w h1 h2 h3 h4 h5).out
end
end Go.Proofs.YtdldochhondifaaDoor
