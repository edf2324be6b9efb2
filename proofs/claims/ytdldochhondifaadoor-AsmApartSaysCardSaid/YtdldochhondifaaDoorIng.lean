/-
  Several texts in one (Inv Ing): what each proves stands at its theorems.
  Conditions: as the theorems say.
-/
import Derived.Test.YtdldochhondifaaDoorLex
import Derived.Test.YtdldochhondifaaDoorBase
namespace Go.Proofs.YtdldochhondifaaDoor
open Go

section
variable {P : Program}
/-- Operation k has yielded u. -/
def upd (σ : Nat → Option Value) (k : Nat) (u : Value) : Nat → Option Value := fun j => if j = k then some u else σ j
theorem upd_same (σ : Nat → Option Value) (k : Nat) (u : Value) : upd σ k u k = some u := by simp [upd]
theorem upd_ne {σ : Nat → Option Value} {k : Nat} {u : Value} {j : Nat} (h : j ≠ k) : upd σ k u j = σ j := by simp [upd, h]
/-- What an operation comes to, said by R. -/
def uponR (P : Program) (R : Value → World → Prop) : Result Next → Prop
  | .ok (.value u) w' => R u w'
  | .ok .skip w' => R undef w'
  | .ok (.enter f args) w' => Calls P f args w' (fun e w'' => ∃ u, e = .returned u ∧ R u w'')
  | _ => False
/-- The frame when the operations that σ names have yielded. -/
def putO (σ : Nat → Option Value) : List Oper → Nat → Act → Act
  | [], _, a => a
  | o :: l, k, a => putO σ l (k + 1) (match σ k with
    | some u => a.put o.dst u
    | none => a)
theorem putO_none {σ : Nat → Option Value} : ∀ (l : List Oper) (k : Nat) (a : Act), (∀ j, k ≤ j → σ j = none) → putO σ l k a = a
  | [], _, _, _ => rfl
  | o :: l, k, a, h => by
    simp only [putO, h k (Nat.le_refl _)]
    exact putO_none l (k + 1) a fun j hj => h j (by omega)
theorem putO_congr {σ τ : Nat → Option Value} : ∀ (l : List Oper) (k : Nat) (a : Act), (∀ j, k ≤ j → j < k + l.length → σ j = τ j) → putO σ l k a = putO τ l k a
  | [], _, _, _ => rfl
  | o :: l, k, a, h => by
    simp only [putO, h k (Nat.le_refl _) (by simp)]
    exact putO_congr l (k + 1) _ fun j hj hj2 => h j (by omega) (by simp; omega)
theorem putO_slot {σ τ : Nat → Option Value} (d : Tmp) : ∀ (l : List Oper) (k : Nat) (a a' : Act), a.tmps[d]? = a'.tmps[d]? →
    (∀ (j : Nat) (o : Oper), l[j]? = some o → o.dst = some d → σ (k + j) = τ (k + j)) → (putO σ l k a).tmps[d]? = (putO τ l k a').tmps[d]?
  | [], _, _, _, h, _ => h
  | o :: l, k, a, a', h, hs => by
    simp only [putO]
    refine putO_slot d l (k + 1) _ _ ?_ (fun j o' h1 h2 => by have := hs (j + 1) o' (by simpa using h1) h2; rwa [show k + (j + 1) = k + 1 + j from by omega] at this)
    by_cases hd : o.dst = some d
    · have := hs 0 o rfl hd
      simp only [Nat.add_zero] at this
      rw [this]
      cases τ k with
      | none => exact h
      | some u => exact put_slot _ _ _ _ _ h
    · cases σ k <;> cases τ k <;> simp only [put_slot_ne _ _ _ _ hd] <;> exact h
theorem putO_put {σ : Nat → Option Value} {dst : Option Tmp} {v : Value} : ∀ (l : List Oper) (k : Nat) (a : Act),
    (∀ o, o ∈ l → ∀ d, dst = some d → o.dst ≠ some d) → putO σ l k (a.put dst v) = (putO σ l k a).put dst v
  | [], _, _, _ => rfl
  | o :: l, k, a, h => by
    simp only [putO]
    have ih := fun a' => putO_put (σ := σ) (dst := dst) (v := v) l (k + 1) a' fun o' ho' => h o' (by simp [ho'])
    cases σ k with
    | some u =>
      simp only
      rw [Act.put_comm a v u (h o (by simp))]
      exact ih _
    | none => exact ih _
theorem putO_set {σ τ : Nat → Option Value} : ∀ (l : List Oper) (k : Nat) (a : Act) (i : Nat) (o : Oper) (v : Value), l[i]? = some o → σ (k + i) = none → τ (k + i) = some v →
    (∀ j, j ≠ k + i → τ j = σ j) → (∀ (j : Nat) (o' : Oper), l[j]? = some o' → j ≠ i → ∀ d, o.dst = some d → o'.dst ≠ some d) →
    (putO σ l k a).put o.dst v = putO τ l k a
  | [], _, _, i, o, v, h, _, _, _, _ => by simp at h
  | x :: l, k, a, 0, o, v, h1, h3, h4, h5, h6 => by
    simp only [List.getElem?_cons_zero, Option.some.injEq] at h1
    subst h1
    simp only [Nat.add_zero] at h3 h4
    simp only [putO, h3, h4]
    rw [putO_put l (k + 1) a fun o' ho' => by
      obtain ⟨j, hj⟩ := List.mem_iff_getElem?.1 ho'
      exact h6 (j + 1) o' (by simpa using hj) (by omega)]
    rw [putO_congr l (k + 1) a fun j hj _ => (h5 j (by omega)).symm]
  | x :: l, k, a, i + 1, o, v, h1, h3, h4, h5, h6 => by
    simp only [List.getElem?_cons_succ] at h1
    have e : k + (i + 1) = k + 1 + i := by omega
    simp only [putO]
    rw [h5 k (by omega)]
    exact putO_set l (k + 1) _ i o v h1 (e ▸ h3) (e ▸ h4) (fun j hj => h5 j (by omega)) fun j o' hj hne => h6 (j + 1) o' (by simpa using hj) (by omega)

/-- What an operation waits for has been done. -/
def Closed (l : List Oper) (σ : Nat → Option Value) : Prop := ∀ (j : Nat) (o : Oper), l[j]? = some o → (σ j).isSome = true → ∀ e, e ∈ o.after.toList → Region.binds .any e = true → (σ e.on).isSome = true
/-- Each operation, whenever it comes up, keeps C. -/
def Keeps (P : Program) (l : List Oper) (a : Act) (C : (Nat → Option Value) → World → Prop) (k : Nat) (o : Oper) : Prop :=
  ∀ (σ : Nat → Option Value) (vs : Nat → Value) (w : World), (∀ j u, σ j = some u → u = vs j) → Closed l σ → C σ w → σ k = none →
    (∀ e, e ∈ o.after.toList → Region.binds .any e = true → σ e.on = some (vs e.on)) →
    uponR P (fun u w' => C (upd σ k u) w') ((execOp (putO (fun j => some (vs j)) l 0 a).eval o).run P w)

theorem wpAny_inv {ops : Array Oper} {l : List Oper} (hl : ops = l.toArray) {C : (Nat → Option Value) → World → Prop} {Q : Exit → Act → World → Prop} {a : Act} (hB : lexOk ops = true)
    (hv : ∀ (i : Nat) (o : Oper), l[i]? = some o → o.guard = none ∧ Keeps P l a C i o)
    (hq : ∀ (σ : Nat → Option Value) (vs : Nat → Value) (w' : World), C σ w' → (∀ j, j < l.length → σ j = some (vs j)) → Q .normal (putO (fun j => some (vs j)) l 0 a) w') :
    ∀ (fuel : Nat) (L : Array Bool) (σ : Nat → Option Value) (w' : World), L.size = l.length → (∀ j, L.getD j false = (σ j).isSome) → Closed l σ → leftN (fun j => L.getD j false) l.length ≤ fuel → C σ w' →
      wpAny P .any ops Q fuel L (putO σ l 0 a) w' := by
  have hops : ∀ i : Nat, ops[i]? = l[i]? := fun i => by rw [hl]; simp
  have hsz : ops.size = l.length := by rw [hl]; simp
  have hsel := Region.noSelect_spec (ops := ops) (by unfold lexOk at hB; exact (Bool.and_eq_true_iff.1 hB).1)
  have hall : ∀ (L : Array Bool) (σ : Nat → Option Value) (w' : World), (∀ j, L.getD j false = (σ j).isSome) → C σ w' → (∀ j, j < l.length → L.getD j false = true) → Q .normal (putO σ l 0 a) w' := fun L σ w' hs hC hL => by
    have h : ∀ j, j < l.length → σ j = some ((σ j).getD undef) := fun j hj => by
      have := hL j hj
      rw [hs j] at this
      cases h : σ j with
      | none => rw [h] at this; cases this
      | some u => rfl
    rw [putO_congr (τ := fun j => some ((σ j).getD undef)) l 0 a fun j _ hj => h j (by omega)]
    exact hq σ _ w' hC h
  have mem_ready : ∀ (L : Array Bool) (i : Nat), i ∈ Region.ready .any ops L ↔ i < l.length ∧ L.getD i true = false ∧ ∃ o, l[i]? = some o ∧ ∀ e, e ∈ o.after.toList → Region.binds .any e = true → L.getD e.on false = true := by
    intro L i
    unfold Region.ready
    rw [List.mem_filter, List.mem_range, hsz]
    refine ⟨fun ⟨h1, h2⟩ => ⟨h1, ?_⟩, fun ⟨h1, h2, o, h3, h4⟩ => ⟨h1, ?_⟩⟩
    · simp only [Bool.and_eq_true, Bool.not_eq_true'] at h2
      refine ⟨h2.1, ?_⟩
      have h3 := h2.2
      rw [hops] at h3
      cases ho : l[i]? with
      | none => rw [ho] at h3; simp at h3
      | some o =>
        rw [ho] at h3
        refine ⟨o, rfl, fun e he hb => ?_⟩
        simp only [Option.map_some, Option.getD_some] at h3
        have := Array.all_eq_true_iff_forall_mem.1 h3 e (by simpa using he)
        simpa [hb] using this
    · simp only [Bool.and_eq_true, Bool.not_eq_true']
      refine ⟨h2, ?_⟩
      rw [hops, h3]
      simp only [Option.map_some, Option.getD_some]
      rw [Array.all_eq_true_iff_forall_mem]
      intro e he
      by_cases hb : Region.binds .any e = true
      · simp [hb, h4 e (by simpa using he) hb]
      · simp [hb]
  have getD_true : ∀ (L : Array Bool) (i : Nat), L.size = l.length → i < l.length → L.getD i true = L.getD i false := fun L i h1 h2 => by
    simp [Array.getD, h1, h2]
  have none_ready : ∀ (L : Array Bool), L.size = l.length → Region.ready .any ops L = [] → ∀ j, j < l.length → L.getD j false = true := by
    intro L hLs hr
    intro j
    induction j using Nat.strongRecOn with
    | ind j ih =>
      intro hj
      by_cases h : L.getD j false = true
      · exact h
      · exfalso
        have hmem : j ∈ Region.ready .any ops L := by
          rw [mem_ready]
          have hlj : l[j]? = some l[j] := List.getElem?_eq_getElem hj
          refine ⟨hj, by rw [getD_true L j hLs hj]; simpa using h, l[j], hlj, fun e he hb => ?_⟩
          have hlt := (lexOk_spec hB j l[j] (by rw [hops, hlj])).1 e he hb
          exact ih e.on hlt (by omega)
        rw [hr] at hmem
        cases hmem
  intro fuel
  induction fuel with
  | zero =>
    intro L σ w' hLs hs hcl hf hC
    have hl0 := leftN_zero l.length (by omega : leftN (fun j => L.getD j false) l.length = 0)
    refine ⟨?_, hall L σ w' hs hC hl0⟩
    rw [List.eq_nil_iff_forall_not_mem]
    intro i hi
    rw [mem_ready] at hi
    have := hl0 i hi.1
    rw [← getD_true L i hLs hi.1, hi.2.1] at this
    cases this
  | succ fuel ih =>
    intro L σ w' hLs hs hcl hf hC
    refine ⟨fun hr => hall L σ w' hs hC (none_ready L hLs hr), fun i hi => ?_⟩
    rw [mem_ready] at hi
    obtain ⟨hil, hLi, o, ho, hdep⟩ := hi
    obtain ⟨hgd, hK⟩ := hv i o ho
    have hLi' : L.getD i false = false := by rw [← getD_true L i hLs hil]; exact hLi
    have hσi : σ i = none := by
      have := hs i
      rw [hLi'] at this
      cases h : σ i with
      | none => rfl
      | some u => rw [h] at this; cases this
    have hset : ∀ j : Nat, (L.setIfInBounds i true).getD j false = if j = i then true else L.getD j false := by
      intro j
      simp only [Array.getD_eq_getD_getElem?]
      by_cases e : j = i
      · subst e; rw [Array.getElem?_setIfInBounds]; simp [hLs, hil]
      · rw [Array.getElem?_setIfInBounds_ne (fun h => e h.symm)]; simp [e]
    have goon : ∀ (u : Value) (w'' : World), C (upd σ i u) w'' → wpAny P .any ops Q fuel (L.setIfInBounds i true) ((putO σ l 0 a).put o.dst u) w'' := by
      intro u w'' hC'
      rw [putO_set (σ := σ) (τ := upd σ i u) l 0 a i o u ho (by rw [Nat.zero_add]; exact hσi) (by rw [Nat.zero_add]; exact upd_same _ _ _)
        (fun j hj => upd_ne (by omega)) (fun j o' hj hne d hd hd' => (((lexOk_spec hB i o (by rw [hops, ho])).2 j o' d (by rw [hops, hj]) hd').1 (fun e => hne e.symm)) hd)]
      refine ih _ _ w'' (by simp [hLs]) (fun j => ?_) (fun j o' hj hjs e he hb => ?_) ?_ hC'
      · rw [hset]
        unfold upd
        split
        · rfl
        · exact hs j
      · unfold upd at hjs ⊢
        split
        · rfl
        · by_cases hji : j = i
          · subst hji
            rw [ho] at hj
            cases hj
            rw [← hs]
            exact hdep e he hb
          · rw [if_neg hji] at hjs
            exact hcl j o' hj hjs e he hb
      · have := leftN_set (S := fun j => L.getD j false) (S' := fun j => (L.setIfInBounds i true).getD j false) (i := i) hLi' (by rw [hset]; simp) (fun j hj => by rw [hset, if_neg hj]) l.length hil
        omega
    have hdep' : ∀ e, e ∈ o.after.toList → Region.binds .any e = true → σ e.on = some ((fun j => (σ j).getD undef) e.on) := fun e he hb => by
      have := hdep e he hb
      rw [hs] at this
      simp only
      cases h : σ e.on with
      | none => rw [h] at this; cases this
      | some u => rfl
    have hsame : ∀ d, d ∈ o.looksAt ops → (putO σ l 0 a).tmps[d]? = (putO (fun j => some ((σ j).getD undef)) l 0 a).tmps[d]? := by
      intro d hd
      refine putO_slot d l 0 a a rfl fun j oj hj hjd => ?_
      obtain ⟨h1, e, he, hb, hon⟩ := ((lexOk_spec hB i o (by rw [hops, ho])).2 j oj d (by rw [hops, hj]) hjd).2 hd
      have := hdep' e he hb
      rw [hon] at this
      simp only [Nat.zero_add]
      exact this
    have hexec : execOp (putO σ l 0 a).eval o = execOp (putO (fun j => some ((σ j).getD undef)) l 0 a).eval o := by
      refine execOp_congr o (fun cs b => hsel i o cs b (by rw [hops, ho])) fun x hx => ?_
      cases x with
      | tmp t =>
        have := hsame t (by unfold Oper.looksAt; exact List.mem_append_left _ (List.mem_filterMap.2 ⟨.tmp t, by simpa using hx, rfl⟩))
        generalize putO σ l 0 a = A at this ⊢
        generalize putO (fun j => some ((σ j).getD undef)) l 0 a = A' at this ⊢
        simp only [Act.eval, Array.getD_eq_getD_getElem?, this]
      | const v => rfl
      | global g => rfl
      | func f => rfl
    have h3 := hK σ (fun j => (σ j).getD undef) w' (fun j u h => by rw [h]; rfl) hcl hC hσi hdep'
    unfold wpOp
    rw [hops, ho]
    simp only
    rw [if_pos (by simp [Region.wanted, hgd])]
    refine .inl ?_
    unfold Oper.wp
    rw [hexec]
    generalize (execOp (putO (fun j => some ((σ j).getD undef)) l 0 a).eval o).run P w' = r at h3 ⊢
    cases r with
    | ok n w'' =>
      cases n <;> simp only [uponR] at h3 <;> simp only [Oper.upon]
      case value u => exact goon _ _ h3
      case skip => exact goon _ _ h3
      case enter f args => exact h3.mono fun e w3 ⟨u, he, hC3⟩ => by subst he; exact goon _ _ hC3
    | halt x w'' => simp only [uponR] at h3

theorem wp_region_inv {id : Nat} {l : List Oper} {Q : Exit → Act → World → Prop} {a : Act} {w : World} (C : (Nat → Option Value) → World → Prop) (hm : P.follows .mixedOrders = true) (hB : lexOk l.toArray = true)
    (h0 : C (fun _ => none) { w with drawn := w.drawn + 1 })
    (hv : ∀ (i : Nat) (o : Oper), l[i]? = some o → o.guard = none ∧ Keeps P l a C i o)
    (hq : ∀ (σ : Nat → Option Value) (vs : Nat → Value) (w' : World), C σ w' → (∀ j, j < l.length → σ j = some (vs j)) → Q .normal (putO (fun j => some (vs j)) l 0 a) w') : (Code.region id l.toArray true).wp P Q a w := by
  refine wp_region_any hm ?_
  have h1 := wpAny_inv (ops := l.toArray) rfl hB hv hq l.length (Array.replicate l.length false) (fun _ => none) _ (by simp) (fun j => by
    simp only [Array.getD_eq_getD_getElem?]
    rcases Nat.lt_or_ge j l.length with h | h
    · rw [Array.getElem?_eq_getElem (by simpa using h)]; simp
    · rw [Array.getElem?_eq_none (by simpa using h)]; rfl) (fun j o hj h => by cases h) (by rw [leftN_rep _ _ (Nat.le_refl _)]; exact Nat.le_refl _) h0
  rw [putO_none _ _ _ (fun j _ => rfl)] at h1
  simpa using h1
/-- The operations one by one. -/
def KeepsAll (P : Program) (l : List Oper) (a : Act) (C : (Nat → Option Value) → World → Prop) : List Oper → Nat → Prop
  | [], _ => True
  | o :: r, k => (o.guard = none ∧ Keeps P l a C k o) ∧ KeepsAll P l a C r (k + 1)
theorem keeps_of_all {l : List Oper} {a : Act} {C : (Nat → Option Value) → World → Prop} : ∀ (r : List Oper) (k : Nat), KeepsAll P l a C r k → ∀ (i : Nat) (o : Oper), r[i]? = some o → o.guard = none ∧ Keeps P l a C (k + i) o
  | [], _, _, i, o, h => by simp at h
  | x :: r, k, ⟨h1, _⟩, 0, o, h => by simp at h; subst h; exact h1
  | x :: r, k, ⟨_, h2⟩, i + 1, o, h => by
    have := keeps_of_all r (k + 1) h2 i o (by simpa using h)
    rwa [show k + 1 + i = k + (i + 1) by omega] at this
theorem wp_region_keeps {id : Nat} {l : List Oper} {Q : Exit → Act → World → Prop} {a : Act} {w : World} (C : (Nat → Option Value) → World → Prop) (hm : P.follows .mixedOrders = true) (hB : lexOk l.toArray = true)
    (h0 : C (fun _ => none) { w with drawn := w.drawn + 1 }) (hv : KeepsAll P l a C l 0)
    (hq : ∀ (σ : Nat → Option Value) (vs : Nat → Value) (w' : World), C σ w' → (∀ j, j < l.length → σ j = some (vs j)) → Q .normal (putO (fun j => some (vs j)) l 0 a) w') : (Code.region id l.toArray true).wp P Q a w :=
  wp_region_inv C hm hB h0 (fun i o h => by have := keeps_of_all l 0 hv i o h; rwa [Nat.zero_add] at this) hq
end
/-- What waits for an operation that is to come is to come. -/
theorem not_done {l : List Oper} {σ : Nat → Option Value} (h : Closed l σ) {k j : Nat} {o : Oper} (hk : σ k = none) (ho : l[j]? = some o) (hd : (o.after.toList.any fun e => e.on == k && Region.binds .any e) = true) : σ j = none := by
  cases hj : σ j with
  | none => rfl
  | some u =>
    exfalso
    obtain ⟨e, he, h2⟩ := List.any_eq_true.1 hd
    simp only [Bool.and_eq_true, beq_iff_eq] at h2
    have := h j o ho (by rw [hj]; rfl) e he h2.2
    rw [h2.1, hk] at this
    cases this
end Go.Proofs.YtdldochhondifaaDoor
namespace Go.Proofs.YtdldochhondifaaDoor
open Go.RowKit

section
variable {P : Program}
theorem put_size (a : Act) (dst : Option Tmp) (v : Value) : (a.put dst v).tmps.size = a.tmps.size := by
  cases dst <;> simp [Act.put]
theorem putO_size {σ : Nat → Option Value} : ∀ (l : List Oper) (k : Nat) (a : Act), (putO σ l k a).tmps.size = a.tmps.size
  | [], _, _ => rfl
  | o :: l, k, a => by
    simp only [putO]
    rw [putO_size l (k + 1) _]
    cases σ k with
    | none => rfl
    | some u => exact put_size _ _ _
theorem putO_get {σ : Nat → Option Value} {l : List Oper} {a : Act} (hB : lexOk l.toArray = true) {g : Nat} {og : Oper} {d : Tmp} {u : Value} (hg : l[g]? = some og) (hd : og.dst = some d) (hs : d < a.tmps.size) (hu : σ g = some u) : (putO σ l 0 a).tmps[d]? = some u := by
  have h := putO_set (σ := fun j => if j = g then none else σ j) (τ := σ) l 0 a g og u hg (by simp) (by rw [Nat.zero_add]; exact hu) (fun j hj => by rw [Nat.zero_add] at hj; simp [hj]) (fun j o' hj hne d' h1 h2 => by
    exact ((lexOk_spec hB g og (by simpa using hg)).2 j o' d' (by simpa using hj) h2).1 (fun e => hne e.symm) h1)
  rw [← h, hd]
  simp only [Act.put]
  rw [Array.getElem?_setIfInBounds_self_of_lt]
  rw [putO_size]
  exact hs
/-- An operation that is passed over keeps C. -/
def Skips (l : List Oper) (C : (Nat → Option Value) → World → Prop) (k : Nat) : Prop := ∀ σ w, Closed l σ → C σ w → σ k = none → C (upd σ k undef) w
/-- .. each operation: without a guard, or with one whose word is known. -/
def KeepsG (P : Program) (l : List Oper) (a : Act) (C : (Nat → Option Value) → World → Prop) (k : Nat) (o : Oper) : Prop :=
  (o.guard = none ∧ Keeps P l a C k o) ∨ ∃ (g : Nat) (b c : Bool) (og : Oper) (d : Tmp), o.guard = some (g, b) ∧ l[g]? = some og ∧ og.dst = some d ∧ d < a.tmps.size ∧ (∃ e ∈ o.after.toList, Region.binds .any e = true ∧ e.on = g) ∧
    (∀ σ w u, Closed l σ → C σ w → σ k = none → σ g = some u → u = .bool c) ∧ ((c = b ∧ Keeps P l a C k o) ∨ (c ≠ b ∧ Skips l C k))
theorem wpAny_invG {ops : Array Oper} {l : List Oper} (hl : ops = l.toArray) {C : (Nat → Option Value) → World → Prop} {Q : Exit → Act → World → Prop} {a : Act} (hB : lexOk ops = true)
    (hv : ∀ (i : Nat) (o : Oper), l[i]? = some o → KeepsG P l a C i o)
    (hq : ∀ (σ : Nat → Option Value) (vs : Nat → Value) (w' : World), C σ w' → (∀ j, j < l.length → σ j = some (vs j)) → Q .normal (putO (fun j => some (vs j)) l 0 a) w') :
    ∀ (fuel : Nat) (L : Array Bool) (σ : Nat → Option Value) (w' : World), L.size = l.length → (∀ j, L.getD j false = (σ j).isSome) → Closed l σ → leftN (fun j => L.getD j false) l.length ≤ fuel → C σ w' →
      wpAny P .any ops Q fuel L (putO σ l 0 a) w' := by
  have hops : ∀ i : Nat, ops[i]? = l[i]? := fun i => by rw [hl]; simp
  have hsz : ops.size = l.length := by rw [hl]; simp
  have hsel := Region.noSelect_spec (ops := ops) (by unfold lexOk at hB; exact (Bool.and_eq_true_iff.1 hB).1)
  have hall : ∀ (L : Array Bool) (σ : Nat → Option Value) (w' : World), (∀ j, L.getD j false = (σ j).isSome) → C σ w' → (∀ j, j < l.length → L.getD j false = true) → Q .normal (putO σ l 0 a) w' := fun L σ w' hs hC hL => by
    have h : ∀ j, j < l.length → σ j = some ((σ j).getD undef) := fun j hj => by
      have := hL j hj
      rw [hs j] at this
      cases h : σ j with
      | none => rw [h] at this; cases this
      | some u => rfl
    rw [putO_congr (τ := fun j => some ((σ j).getD undef)) l 0 a fun j _ hj => h j (by omega)]
    exact hq σ _ w' hC h
  have mem_ready : ∀ (L : Array Bool) (i : Nat), i ∈ Region.ready .any ops L ↔ i < l.length ∧ L.getD i true = false ∧ ∃ o, l[i]? = some o ∧ ∀ e, e ∈ o.after.toList → Region.binds .any e = true → L.getD e.on false = true := by
    intro L i
    unfold Region.ready
    rw [List.mem_filter, List.mem_range, hsz]
    refine ⟨fun ⟨h1, h2⟩ => ⟨h1, ?_⟩, fun ⟨h1, h2, o, h3, h4⟩ => ⟨h1, ?_⟩⟩
    · simp only [Bool.and_eq_true, Bool.not_eq_true'] at h2
      refine ⟨h2.1, ?_⟩
      have h3 := h2.2
      rw [hops] at h3
      cases ho : l[i]? with
      | none => rw [ho] at h3; simp at h3
      | some o =>
        rw [ho] at h3
        refine ⟨o, rfl, fun e he hb => ?_⟩
        simp only [Option.map_some, Option.getD_some] at h3
        have := Array.all_eq_true_iff_forall_mem.1 h3 e (by simpa using he)
        simpa [hb] using this
    · simp only [Bool.and_eq_true, Bool.not_eq_true']
      refine ⟨h2, ?_⟩
      rw [hops, h3]
      simp only [Option.map_some, Option.getD_some]
      rw [Array.all_eq_true_iff_forall_mem]
      intro e he
      by_cases hb : Region.binds .any e = true
      · simp [hb, h4 e (by simpa using he) hb]
      · simp [hb]
  have getD_true : ∀ (L : Array Bool) (i : Nat), L.size = l.length → i < l.length → L.getD i true = L.getD i false := fun L i h1 h2 => by
    simp [Array.getD, h1, h2]
  have none_ready : ∀ (L : Array Bool), L.size = l.length → Region.ready .any ops L = [] → ∀ j, j < l.length → L.getD j false = true := by
    intro L hLs hr
    intro j
    induction j using Nat.strongRecOn with
    | ind j ih =>
      intro hj
      by_cases h : L.getD j false = true
      · exact h
      · exfalso
        have hmem : j ∈ Region.ready .any ops L := by
          rw [mem_ready]
          have hlj : l[j]? = some l[j] := List.getElem?_eq_getElem hj
          refine ⟨hj, by rw [getD_true L j hLs hj]; simpa using h, l[j], hlj, fun e he hb => ?_⟩
          have hlt := (lexOk_spec hB j l[j] (by rw [hops, hlj])).1 e he hb
          exact ih e.on hlt (by omega)
        rw [hr] at hmem
        cases hmem
  intro fuel
  induction fuel with
  | zero =>
    intro L σ w' hLs hs hcl hf hC
    have hl0 := leftN_zero l.length (by omega : leftN (fun j => L.getD j false) l.length = 0)
    refine ⟨?_, hall L σ w' hs hC hl0⟩
    rw [List.eq_nil_iff_forall_not_mem]
    intro i hi
    rw [mem_ready] at hi
    have := hl0 i hi.1
    rw [← getD_true L i hLs hi.1, hi.2.1] at this
    cases this
  | succ fuel ih =>
    intro L σ w' hLs hs hcl hf hC
    refine ⟨fun hr => hall L σ w' hs hC (none_ready L hLs hr), fun i hi => ?_⟩
    rw [mem_ready] at hi
    obtain ⟨hil, hLi, o, ho, hdep⟩ := hi
    have hvi := hv i o ho
    have hLi' : L.getD i false = false := by rw [← getD_true L i hLs hil]; exact hLi
    have hσi : σ i = none := by
      have := hs i
      rw [hLi'] at this
      cases h : σ i with
      | none => rfl
      | some u => rw [h] at this; cases this
    have hset : ∀ j : Nat, (L.setIfInBounds i true).getD j false = if j = i then true else L.getD j false := by
      intro j
      simp only [Array.getD_eq_getD_getElem?]
      by_cases e : j = i
      · subst e; rw [Array.getElem?_setIfInBounds]; simp [hLs, hil]
      · rw [Array.getElem?_setIfInBounds_ne (fun h => e h.symm)]; simp [e]
    have goon : ∀ (u : Value) (w'' : World), C (upd σ i u) w'' → wpAny P .any ops Q fuel (L.setIfInBounds i true) ((putO σ l 0 a).put o.dst u) w'' := by
      intro u w'' hC'
      rw [putO_set (σ := σ) (τ := upd σ i u) l 0 a i o u ho (by rw [Nat.zero_add]; exact hσi) (by rw [Nat.zero_add]; exact upd_same _ _ _)
        (fun j hj => upd_ne (by omega)) (fun j o' hj hne d hd hd' => (((lexOk_spec hB i o (by rw [hops, ho])).2 j o' d (by rw [hops, hj]) hd').1 (fun e => hne e.symm)) hd)]
      refine ih _ _ w'' (by simp [hLs]) (fun j => ?_) (fun j o' hj hjs e he hb => ?_) ?_ hC'
      · rw [hset]
        unfold upd
        split
        · rfl
        · exact hs j
      · unfold upd at hjs ⊢
        split
        · rfl
        · by_cases hji : j = i
          · subst hji
            rw [ho] at hj
            cases hj
            rw [← hs]
            exact hdep e he hb
          · rw [if_neg hji] at hjs
            exact hcl j o' hj hjs e he hb
      · have := leftN_set (S := fun j => L.getD j false) (S' := fun j => (L.setIfInBounds i true).getD j false) (i := i) hLi' (by rw [hset]; simp) (fun j hj => by rw [hset, if_neg hj]) l.length hil
        omega
    have hdep' : ∀ e, e ∈ o.after.toList → Region.binds .any e = true → σ e.on = some ((fun j => (σ j).getD undef) e.on) := fun e he hb => by
      have := hdep e he hb
      rw [hs] at this
      simp only
      cases h : σ e.on with
      | none => rw [h] at this; cases this
      | some u => rfl
    have hsame : ∀ d, d ∈ o.looksAt ops → (putO σ l 0 a).tmps[d]? = (putO (fun j => some ((σ j).getD undef)) l 0 a).tmps[d]? := by
      intro d hd
      refine putO_slot d l 0 a a rfl fun j oj hj hjd => ?_
      obtain ⟨h1, e, he, hb, hon⟩ := ((lexOk_spec hB i o (by rw [hops, ho])).2 j oj d (by rw [hops, hj]) hjd).2 hd
      have := hdep' e he hb
      rw [hon] at this
      simp only [Nat.zero_add]
      exact this
    have hexec : execOp (putO σ l 0 a).eval o = execOp (putO (fun j => some ((σ j).getD undef)) l 0 a).eval o := by
      refine execOp_congr o (fun cs b => hsel i o cs b (by rw [hops, ho])) fun x hx => ?_
      cases x with
      | tmp t =>
        have := hsame t (by unfold Oper.looksAt; exact List.mem_append_left _ (List.mem_filterMap.2 ⟨.tmp t, by simpa using hx, rfl⟩))
        generalize putO σ l 0 a = A at this ⊢
        generalize putO (fun j => some ((σ j).getD undef)) l 0 a = A' at this ⊢
        simp only [Act.eval, Array.getD_eq_getD_getElem?, this]
      | const v => rfl
      | global g => rfl
      | func f => rfl
    have hdone : ∀ g, (∃ e ∈ o.after.toList, Region.binds .any e = true ∧ e.on = g) → ∃ u, σ g = some u := fun g ⟨e, he, hb, hon⟩ => by
      have := hdep' e he hb
      rw [hon] at this
      exact ⟨_, this⟩
    have hyield : ∀ (g : Nat) (og : Oper) (d : Tmp) (c : Bool), l[g]? = some og → og.dst = some d → d < a.tmps.size → σ g = some (.bool c) → yielded ops (putO σ l 0 a).tmps g = some c := fun g og d c h1 h2 h4 h5 => by
      unfold yielded
      rw [hops, h1]
      simp only [Option.bind_some, h2]
      rw [putO_get (hl ▸ hB) h1 h2 h4 h5]
    have hrun : Keeps P l a C i o → Region.wanted o (yielded ops (putO σ l 0 a).tmps) = true → wpOp P ops Q i (wpAny P .any ops Q fuel (L.setIfInBounds i true)) (putO σ l 0 a) w' := fun hK hw => by
      have h3 := hK σ (fun j => (σ j).getD undef) w' (fun j u h => by rw [h]; rfl) hcl hC hσi hdep'
      unfold wpOp
      rw [hops, ho]
      simp only
      rw [if_pos hw]
      refine .inl ?_
      unfold Oper.wp
      rw [hexec]
      generalize (execOp (putO (fun j => some ((σ j).getD undef)) l 0 a).eval o).run P w' = r at h3 ⊢
      cases r with
      | ok n w'' =>
        cases n <;> simp only [uponR] at h3 <;> simp only [Oper.upon]
        case value u => exact goon _ _ h3
        case skip => exact goon _ _ h3
        case enter f args => exact h3.mono fun e w3 ⟨u, he, hC3⟩ => by subst he; exact goon _ _ hC3
      | halt x w'' => simp only [uponR] at h3
    rcases hvi with ⟨hgd, hK⟩ | ⟨g, b, c, og, d, hgd, hog, hod, hds, hga, hval, hcase⟩
    · exact hrun hK (by simp [Region.wanted, hgd])
    · obtain ⟨u, hu⟩ := hdone g hga
      obtain rfl := hval σ w' u hcl hC hσi hu
      have hy := hyield g og d c hog hod hds hu
      rcases hcase with ⟨rfl, hK⟩ | ⟨hne, hS⟩
      · exact hrun hK (by unfold Region.wanted; rw [hgd]; simp [hy])
      · unfold wpOp
        rw [hops, ho]
        simp only
        rw [if_neg (by unfold Region.wanted; rw [hgd]; simp [hy, hne])]
        exact goon _ _ (hS σ w' hcl hC hσi)
theorem wp_region_invG {id : Nat} {l : List Oper} {Q : Exit → Act → World → Prop} {a : Act} {w : World} (C : (Nat → Option Value) → World → Prop) (hm : P.follows .mixedOrders = true) (hB : lexOk l.toArray = true)
    (h0 : C (fun _ => none) { w with drawn := w.drawn + 1 })
    (hv : ∀ (i : Nat) (o : Oper), l[i]? = some o → KeepsG P l a C i o)
    (hq : ∀ (σ : Nat → Option Value) (vs : Nat → Value) (w' : World), C σ w' → (∀ j, j < l.length → σ j = some (vs j)) → Q .normal (putO (fun j => some (vs j)) l 0 a) w') : (Code.region id l.toArray true).wp P Q a w := by
  refine wp_region_any hm ?_
  have h1 := wpAny_invG (ops := l.toArray) rfl hB hv hq l.length (Array.replicate l.length false) (fun _ => none) _ (by simp) (fun j => by
    simp only [Array.getD_eq_getD_getElem?]
    rcases Nat.lt_or_ge j l.length with h | h
    · rw [Array.getElem?_eq_getElem (by simpa using h)]; simp
    · rw [Array.getElem?_eq_none (by simpa using h)]; rfl) (fun j o hj h => by cases h) (by rw [leftN_rep _ _ (Nat.le_refl _)]; exact Nat.le_refl _) h0
  rw [putO_none _ _ _ (fun j _ => rfl)] at h1
  simpa using h1
/-- The operations one by one. -/
def KeepsAllG (P : Program) (l : List Oper) (a : Act) (C : (Nat → Option Value) → World → Prop) : List Oper → Nat → Prop
  | [], _ => True
  | o :: r, k => KeepsG P l a C k o ∧ KeepsAllG P l a C r (k + 1)
theorem keeps_of_allG {l : List Oper} {a : Act} {C : (Nat → Option Value) → World → Prop} : ∀ (r : List Oper) (k : Nat), KeepsAllG P l a C r k → ∀ (i : Nat) (o : Oper), r[i]? = some o → KeepsG P l a C (k + i) o
  | [], _, _, i, o, h => by simp at h
  | x :: r, k, ⟨h1, _⟩, 0, o, h => by simp at h; subst h; exact h1
  | x :: r, k, ⟨_, h2⟩, i + 1, o, h => by
    have := keeps_of_allG r (k + 1) h2 i o (by simpa using h)
    rwa [show k + 1 + i = k + (i + 1) by omega] at this
theorem wp_region_keepsG {id : Nat} {l : List Oper} {Q : Exit → Act → World → Prop} {a : Act} {w : World} (C : (Nat → Option Value) → World → Prop) (hm : P.follows .mixedOrders = true) (hB : lexOk l.toArray = true)
    (h0 : C (fun _ => none) { w with drawn := w.drawn + 1 }) (hv : KeepsAllG P l a C l 0)
    (hq : ∀ (σ : Nat → Option Value) (vs : Nat → Value) (w' : World), C σ w' → (∀ j, j < l.length → σ j = some (vs j)) → Q .normal (putO (fun j => some (vs j)) l 0 a) w') : (Code.region id l.toArray true).wp P Q a w :=
  wp_region_invG C hm hB h0 (fun i o h => by have := keeps_of_allG l 0 hv i o h; rwa [Nat.zero_add] at this) hq
/-- An operation without a guard. -/
theorem KeepsG.plain {l : List Oper} {a : Act} {C : (Nat → Option Value) → World → Prop} {k : Nat} {o : Oper} (hg : o.guard = none) (h : Keeps P l a C k o) : KeepsG P l a C k o := .inl ⟨hg, h⟩
/-- A guarded operation that is wanted. -/
theorem KeepsG.want {l : List Oper} {a : Act} {C : (Nat → Option Value) → World → Prop} {k : Nat} {o : Oper} (g : Nat) (b : Bool) (og : Oper) (d : Tmp) (hg : o.guard = some (g, b)) (h1 : l[g]? = some og) (h2 : og.dst = some d) (h3 : d < a.tmps.size)
    (h4 : (o.after.toList.any fun e => Region.binds .any e && e.on == g) = true) (h5 : ∀ σ w u, Closed l σ → C σ w → σ k = none → σ g = some u → u = .bool b) (h : Keeps P l a C k o) : KeepsG P l a C k o := by
  obtain ⟨e, he, h6⟩ := List.any_eq_true.1 h4
  simp only [Bool.and_eq_true, beq_iff_eq] at h6
  exact .inr ⟨g, b, b, og, d, hg, h1, h2, h3, ⟨e, he, h6.1, h6.2⟩, h5, .inl ⟨rfl, h⟩⟩
/-- A guarded operation that is passed over. -/
theorem KeepsG.skip {l : List Oper} {a : Act} {C : (Nat → Option Value) → World → Prop} {k : Nat} {o : Oper} (g : Nat) (b : Bool) (og : Oper) (d : Tmp) (hg : o.guard = some (g, b)) (h1 : l[g]? = some og) (h2 : og.dst = some d) (h3 : d < a.tmps.size)
    (h4 : (o.after.toList.any fun e => Region.binds .any e && e.on == g) = true) (h5 : ∀ σ w u, Closed l σ → C σ w → σ k = none → σ g = some u → u = .bool (!b)) (h : Skips l C k) : KeepsG P l a C k o := by
  obtain ⟨e, he, h6⟩ := List.any_eq_true.1 h4
  simp only [Bool.and_eq_true, beq_iff_eq] at h6
  exact .inr ⟨g, b, !b, og, d, hg, h1, h2, h3, ⟨e, he, h6.1, h6.2⟩, h5, .inr ⟨by cases b <;> simp, h⟩⟩
/-- All values are known ahead; what lay before stands. -/
def KnownRun (pv : Nat → Option Value) (w0 : World) (σ : Nat → Option Value) (w : World) : Prop := Below w0.heap.size w0 w ∧ ∀ j v, pv j = some v → ∀ u, σ j = some u → u = v
variable {pv : Nat → Option Value} {w0 : World} {σ : Nat → Option Value} {w w' : World}
theorem KnownRun.start (h : Below w0.heap.size w0 w) : KnownRun pv w0 (fun _ => none) w := ⟨h, by simp⟩
theorem KnownRun.low (h : KnownRun pv w0 σ w) : Below w0.heap.size w0 w := h.1
theorem KnownRun.val (h : KnownRun pv w0 σ w) {k : Nat} {u v : Value} (hu : σ k = some u) (hp : pv k = some v) : u = v := h.2 k v hp u hu
theorem KnownRun.say (h : KnownRun pv w0 σ w) {k : Nat} {v : Value} (hk : pv k = some v) (hb : Below w.heap.size w w') : KnownRun pv w0 (upd σ k v) w' := by
  refine ⟨h.1.trans (hb.mono h.1.size), fun j v' hj u hu => ?_⟩
  by_cases e : j = k
  · subst e
    rw [upd_same] at hu
    rw [hk] at hj
    cases hj
    cases hu
    rfl
  · rw [upd_ne e] at hu
    exact h.2 j v' hj u hu
theorem KnownRun.free (h : KnownRun pv w0 σ w) {k : Nat} (hk : pv k = none) (v : Value) (hb : Below w.heap.size w w') : KnownRun pv w0 (upd σ k v) w' := by
  refine ⟨h.1.trans (hb.mono h.1.size), fun j v' hj u hu => ?_⟩
  rw [upd_ne fun e => by rw [e, hk] at hj; cases hj] at hu
  exact h.2 j v' hj u hu
theorem KnownRun.skip (l : List Oper) {k : Nat} (hk : pv k = some undef) : Skips l (KnownRun pv w0) k := fun _ _ _ h _ => h.say hk (Below.refl _ _)
end
end Go.Proofs.YtdldochhondifaaDoor
