/-
  Several texts in one (Inv RuU): what each proves stands at its theorems.
  Conditions: as the theorems say.
-/
import Derived.Test.YtkiaffaieniebaaDoorLex
import Derived.Test.YtkiaffaieniebaaDoorRuS
namespace Go.Proofs.YtkiaffaieniebaaDoor
open Go

section
variable {P : Program}
/-- Operation k has yielded u. -/
def upd (σ : Nat → Option Value) (k : Nat) (u : Value) : Nat → Option Value := fun j => if j = k then some u else σ j
theorem upd_same (σ : Nat → Option Value) (k : Nat) (u : Value) : upd σ k u k = some u := by simp [upd]
theorem upd_ne {σ : Nat → Option Value} {k : Nat} {u : Value} {j : Nat} (h : j ≠ k) : upd σ k u j = σ j := by simp [upd, h]
/-- What an operation comes to, said by R. -/
def uponR (P : Program) (R : Value → World → Prop) : Result Next → Prop
  | .ok (.value u) w' => R u w'
  | .ok .skip w' => R undef w'
  | .ok (.enter f args) w' => Calls P f args w' (fun e w'' => ∃ u, e = .returned u ∧ R u w'')
  | _ => False
/-- The frame when the operations that σ names have yielded. -/
def putO (σ : Nat → Option Value) : List Oper → Nat → Act → Act
  | [], _, a => a
  | o :: l, k, a => putO σ l (k + 1) (match σ k with
    | some u => a.put o.dst u
    | none => a)
theorem putO_none {σ : Nat → Option Value} : ∀ (l : List Oper) (k : Nat) (a : Act), (∀ j, k ≤ j → σ j = none) → putO σ l k a = a
  | [], _, _, _ => rfl
  | o :: l, k, a, h => by
    simp only [putO, h k (Nat.le_refl _)]
    exact putO_none l (k + 1) a fun j hj => h j (by omega)
theorem putO_congr {σ τ : Nat → Option Value} : ∀ (l : List Oper) (k : Nat) (a : Act), (∀ j, k ≤ j → j < k + l.length → σ j = τ j) → putO σ l k a = putO τ l k a
  | [], _, _, _ => rfl
  | o :: l, k, a, h => by
    simp only [putO, h k (Nat.le_refl _) (by simp)]
    exact putO_congr l (k + 1) _ fun j hj hj2 => h j (by omega) (by simp; omega)
theorem putO_slot {σ τ : Nat → Option Value} (d : Tmp) : ∀ (l : List Oper) (k : Nat) (a a' : Act), a.tmps[d]? = a'.tmps[d]? →
    (∀ (j : Nat) (o : Oper), l[j]? = some o → o.dst = some d → σ (k + j) = τ (k + j)) → (putO σ l k a).tmps[d]? = (putO τ l k a').tmps[d]?
  | [], _, _, _, h, _ => h
  | o :: l, k, a, a', h, hs => by
    simp only [putO]
    refine putO_slot d l (k + 1) _ _ ?_ (fun j o' h1 h2 => by have := hs (j + 1) o' (by simpa using h1) h2; rwa [show k + (j + 1) = k + 1 + j from by omega] at this)
    by_cases hd : o.dst = some d
    · have := hs 0 o rfl hd
      simp only [Nat.add_zero] at this
      rw [this]
      cases τ k with
      | none => exact h
      | some u => exact put_slot _ _ _ _ _ h
    · cases σ k <;> cases τ k <;> simp only [put_slot_ne _ _ _ _ hd] <;> exact h
theorem putO_put {σ : Nat → Option Value} {dst : Option Tmp} {v : Value} : ∀ (l : List Oper) (k : Nat) (a : Act),
    (∀ o, o ∈ l → ∀ d, dst = some d → o.dst ≠ some d) → putO σ l k (a.put dst v) = (putO σ l k a).put dst v
  | [], _, _, _ => rfl
  | o :: l, k, a, h => by
    simp only [putO]
    have ih := fun a' => putO_put (σ := σ) (dst := dst) (v := v) l (k + 1) a' fun o' ho' => h o' (by simp [ho'])
    cases σ k with
    | some u =>
      simp only
      rw [Act.put_comm a v u (h o (by simp))]
      exact ih _
    | none => exact ih _
theorem putO_set {σ τ : Nat → Option Value} : ∀ (l : List Oper) (k : Nat) (a : Act) (i : Nat) (o : Oper) (v : Value), l[i]? = some o → σ (k + i) = none → τ (k + i) = some v →
    (∀ j, j ≠ k + i → τ j = σ j) → (∀ (j : Nat) (o' : Oper), l[j]? = some o' → j ≠ i → ∀ d, o.dst = some d → o'.dst ≠ some d) →
    (putO σ l k a).put o.dst v = putO τ l k a
  | [], _, _, i, o, v, h, _, _, _, _ => by simp at h
  | x :: l, k, a, 0, o, v, h1, h3, h4, h5, h6 => by
    simp only [List.getElem?_cons_zero, Option.some.injEq] at h1
    subst h1
    simp only [Nat.add_zero] at h3 h4
    simp only [putO, h3, h4]
    rw [putO_put l (k + 1) a fun o' ho' => by
      obtain ⟨j, hj⟩ := List.mem_iff_getElem?.1 ho'
      exact h6 (j + 1) o' (by simpa using hj) (by omega)]
    rw [putO_congr l (k + 1) a fun j hj _ => (h5 j (by omega)).symm]
  | x :: l, k, a, i + 1, o, v, h1, h3, h4, h5, h6 => by
    simp only [List.getElem?_cons_succ] at h1
    have e : k + (i + 1) = k + 1 + i := by omega
    simp only [putO]
    rw [h5 k (by omega)]
    exact putO_set l (k + 1) _ i o v h1 (e ▸ h3) (e ▸ h4) (fun j hj => h5 j (by omega)) fun j o' hj hne => h6 (j + 1) o' (by simpa using hj) (by omega)

/-- What an operation waits for has been done. -/
def Closed (l : List Oper) (σ : Nat → Option Value) : Prop := ∀ (j : Nat) (o : Oper), l[j]? = some o → (σ j).isSome = true → ∀ e, e ∈ o.after.toList → Region.binds .any e = true → (σ e.on).isSome = true
/-- Each operation, whenever it comes up, keeps C. -/
def Keeps (P : Program) (l : List Oper) (a : Act) (C : (Nat → Option Value) → World → Prop) (k : Nat) (o : Oper) : Prop :=
  ∀ (σ : Nat → Option Value) (vs : Nat → Value) (w : World), (∀ j u, σ j = some u → u = vs j) → Closed l σ → C σ w → σ k = none →
    (∀ e, e ∈ o.after.toList → Region.binds .any e = true → σ e.on = some (vs e.on)) →
    uponR P (fun u w' => C (upd σ k u) w') ((execOp (putO (fun j => some (vs j)) l 0 a).eval o).run P w)

theorem wpAny_inv {ops : Array Oper} {l : List Oper} (hl : ops = l.toArray) {C : (Nat → Option Value) → World → Prop} {Q : Exit → Act → World → Prop} {a : Act} (hB : lexOk ops = true)
    (hv : ∀ (i : Nat) (o : Oper), l[i]? = some o → o.guard = none ∧ Keeps P l a C i o)
    (hq : ∀ (σ : Nat → Option Value) (vs : Nat → Value) (w' : World), C σ w' → (∀ j, j < l.length → σ j = some (vs j)) → Q .normal (putO (fun j => some (vs j)) l 0 a) w') :
    ∀ (fuel : Nat) (L : Array Bool) (σ : Nat → Option Value) (w' : World), L.size = l.length → (∀ j, L.getD j false = (σ j).isSome) → Closed l σ → leftN (fun j => L.getD j false) l.length ≤ fuel → C σ w' →
      wpAny P .any ops Q fuel L (putO σ l 0 a) w' := by
  have hops : ∀ i : Nat, ops[i]? = l[i]? := fun i => by rw [hl]; simp
  have hsz : ops.size = l.length := by rw [hl]; simp
  have hsel := Region.noSelect_spec (ops := ops) (by unfold lexOk at hB; exact (Bool.and_eq_true_iff.1 hB).1)
  have hall : ∀ (L : Array Bool) (σ : Nat → Option Value) (w' : World), (∀ j, L.getD j false = (σ j).isSome) → C σ w' → (∀ j, j < l.length → L.getD j false = true) → Q .normal (putO σ l 0 a) w' := fun L σ w' hs hC hL => by
    have h : ∀ j, j < l.length → σ j = some ((σ j).getD undef) := fun j hj => by
      have := hL j hj
      rw [hs j] at this
      cases h : σ j with
      | none => rw [h] at this; cases this
      | some u => rfl
    rw [putO_congr (τ := fun j => some ((σ j).getD undef)) l 0 a fun j _ hj => h j (by omega)]
    exact hq σ _ w' hC h
  have mem_ready : ∀ (L : Array Bool) (i : Nat), i ∈ Region.ready .any ops L ↔ i < l.length ∧ L.getD i true = false ∧ ∃ o, l[i]? = some o ∧ ∀ e, e ∈ o.after.toList → Region.binds .any e = true → L.getD e.on false = true := by
    intro L i
    unfold Region.ready
    rw [List.mem_filter, List.mem_range, hsz]
    refine ⟨fun ⟨h1, h2⟩ => ⟨h1, ?_⟩, fun ⟨h1, h2, o, h3, h4⟩ => ⟨h1, ?_⟩⟩
    · simp only [Bool.and_eq_true, Bool.not_eq_true'] at h2
      refine ⟨h2.1, ?_⟩
      have h3 := h2.2
      rw [hops] at h3
      cases ho : l[i]? with
      | none => rw [ho] at h3; simp at h3
      | some o =>
        rw [ho] at h3
        refine ⟨o, rfl, fun e he hb => ?_⟩
        simp only [Option.map_some, Option.getD_some] at h3
        have := Array.all_eq_true_iff_forall_mem.1 h3 e (by simpa using he)
        simpa [hb] using this
    · simp only [Bool.and_eq_true, Bool.not_eq_true']
      refine ⟨h2, ?_⟩
      rw [hops, h3]
      simp only [Option.map_some, Option.getD_some]
      rw [Array.all_eq_true_iff_forall_mem]
      intro e he
      by_cases hb : Region.binds .any e = true
      · simp [hb, h4 e (by simpa using he) hb]
      · simp [hb]
  have getD_true : ∀ (L : Array Bool) (i : Nat), L.size = l.length → i < l.length → L.getD i true = L.getD i false := fun L i h1 h2 => by
    simp [Array.getD, h1, h2]
  have none_ready : ∀ (L : Array Bool), L.size = l.length → Region.ready .any ops L = [] → ∀ j, j < l.length → L.getD j false = true := by
    intro L hLs hr
    intro j
    induction j using Nat.strongRecOn with
    | ind j ih =>
      intro hj
      by_cases h : L.getD j false = true
      · exact h
      · exfalso
        have hmem : j ∈ Region.ready .any ops L := by
          rw [mem_ready]
          have hlj : l[j]? = some l[j] := List.getElem?_eq_getElem hj
          refine ⟨hj, by rw [getD_true L j hLs hj]; simpa using h, l[j], hlj, fun e he hb => ?_⟩
          have hlt := (lexOk_spec hB j l[j] (by rw [hops, hlj])).1 e he hb
          exact ih e.on hlt (by omega)
        rw [hr] at hmem
        cases hmem
  intro fuel
  induction fuel with
  | zero =>
    intro L σ w' hLs hs hcl hf hC
    have hl0 := leftN_zero l.length (by omega : leftN (fun j => L.getD j false) l.length = 0)
    refine ⟨?_, hall L σ w' hs hC hl0⟩
    rw [List.eq_nil_iff_forall_not_mem]
    intro i hi
    rw [mem_ready] at hi
    have := hl0 i hi.1
    rw [← getD_true L i hLs hi.1, hi.2.1] at this
    cases this
  | succ fuel ih =>
    intro L σ w' hLs hs hcl hf hC
    refine ⟨fun hr => hall L σ w' hs hC (none_ready L hLs hr), fun i hi => ?_⟩
    rw [mem_ready] at hi
    obtain ⟨hil, hLi, o, ho, hdep⟩ := hi
    obtain ⟨hgd, hK⟩ := hv i o ho
    have hLi' : L.getD i false = false := by rw [← getD_true L i hLs hil]; exact hLi
    have hσi : σ i = none := by
      have := hs i
      rw [hLi'] at this
      cases h : σ i with
      | none => rfl
      | some u => rw [h] at this; cases this
    have hset : ∀ j : Nat, (L.setIfInBounds i true).getD j false = if j = i then true else L.getD j false := by
      intro j
      simp only [Array.getD_eq_getD_getElem?]
      by_cases e : j = i
      · subst e; rw [Array.getElem?_setIfInBounds]; simp [hLs, hil]
      · rw [Array.getElem?_setIfInBounds_ne (fun h => e h.symm)]; simp [e]
    have goon : ∀ (u : Value) (w'' : World), C (upd σ i u) w'' → wpAny P .any ops Q fuel (L.setIfInBounds i true) ((putO σ l 0 a).put o.dst u) w'' := by
      intro u w'' hC'
      rw [putO_set (σ := σ) (τ := upd σ i u) l 0 a i o u ho (by rw [Nat.zero_add]; exact hσi) (by rw [Nat.zero_add]; exact upd_same _ _ _)
        (fun j hj => upd_ne (by omega)) (fun j o' hj hne d hd hd' => (((lexOk_spec hB i o (by rw [hops, ho])).2 j o' d (by rw [hops, hj]) hd').1 (fun e => hne e.symm)) hd)]
      refine ih _ _ w'' (by simp [hLs]) (fun j => ?_) (fun j o' hj hjs e he hb => ?_) ?_ hC'
      · rw [hset]
        unfold upd
        split
        · rfl
        · exact hs j
      · unfold upd at hjs ⊢
        split
        · rfl
        · by_cases hji : j = i
          · subst hji
            rw [ho] at hj
            cases hj
            rw [← hs]
            exact hdep e he hb
          · rw [if_neg hji] at hjs
            exact hcl j o' hj hjs e he hb
      · have := leftN_set (S := fun j => L.getD j false) (S' := fun j => (L.setIfInBounds i true).getD j false) (i := i) hLi' (by rw [hset]; simp) (fun j hj => by rw [hset, if_neg hj]) l.length hil
        omega
    have hdep' : ∀ e, e ∈ o.after.toList → Region.binds .any e = true → σ e.on = some ((fun j => (σ j).getD undef) e.on) := fun e he hb => by
      have := hdep e he hb
      rw [hs] at this
      simp only
      cases h : σ e.on with
      | none => rw [h] at this; cases this
      | some u => rfl
    have hsame : ∀ d, d ∈ o.looksAt ops → (putO σ l 0 a).tmps[d]? = (putO (fun j => some ((σ j).getD undef)) l 0 a).tmps[d]? := by
      intro d hd
      refine putO_slot d l 0 a a rfl fun j oj hj hjd => ?_
      obtain ⟨h1, e, he, hb, hon⟩ := ((lexOk_spec hB i o (by rw [hops, ho])).2 j oj d (by rw [hops, hj]) hjd).2 hd
      have := hdep' e he hb
      rw [hon] at this
      simp only [Nat.zero_add]
      exact this
    have hexec : execOp (putO σ l 0 a).eval o = execOp (putO (fun j => some ((σ j).getD undef)) l 0 a).eval o := by
      refine execOp_congr o (fun cs b => hsel i o cs b (by rw [hops, ho])) fun x hx => ?_
      cases x with
      | tmp t =>
        have := hsame t (by unfold Oper.looksAt; exact List.mem_append_left _ (List.mem_filterMap.2 ⟨.tmp t, by simpa using hx, rfl⟩))
        generalize putO σ l 0 a = A at this ⊢
        generalize putO (fun j => some ((σ j).getD undef)) l 0 a = A' at this ⊢
        simp only [Act.eval, Array.getD_eq_getD_getElem?, this]
      | const v => rfl
      | global g => rfl
      | func f => rfl
    have h3 := hK σ (fun j => (σ j).getD undef) w' (fun j u h => by rw [h]; rfl) hcl hC hσi hdep'
    unfold wpOp
    rw [hops, ho]
    simp only
    rw [if_pos (by simp [Region.wanted, hgd])]
    refine .inl ?_
    unfold Oper.wp
    rw [hexec]
    generalize (execOp (putO (fun j => some ((σ j).getD undef)) l 0 a).eval o).run P w' = r at h3 ⊢
    cases r with
    | ok n w'' =>
      cases n <;> simp only [uponR] at h3 <;> simp only [Oper.upon]
      case value u => exact goon _ _ h3
      case skip => exact goon _ _ h3
      case enter f args => exact h3.mono fun e w3 ⟨u, he, hC3⟩ => by subst he; exact goon _ _ hC3
    | halt x w'' => simp only [uponR] at h3

theorem wp_region_inv {id : Nat} {l : List Oper} {Q : Exit → Act → World → Prop} {a : Act} {w : World} (C : (Nat → Option Value) → World → Prop) (hm : P.follows .mixedOrders = true) (hB : lexOk l.toArray = true)
    (h0 : C (fun _ => none) { w with drawn := w.drawn + 1 })
    (hv : ∀ (i : Nat) (o : Oper), l[i]? = some o → o.guard = none ∧ Keeps P l a C i o)
    (hq : ∀ (σ : Nat → Option Value) (vs : Nat → Value) (w' : World), C σ w' → (∀ j, j < l.length → σ j = some (vs j)) → Q .normal (putO (fun j => some (vs j)) l 0 a) w') : (Code.region id l.toArray true).wp P Q a w := by
  refine wp_region_any hm ?_
  have h1 := wpAny_inv (ops := l.toArray) rfl hB hv hq l.length (Array.replicate l.length false) (fun _ => none) _ (by simp) (fun j => by
    simp only [Array.getD_eq_getD_getElem?]
    rcases Nat.lt_or_ge j l.length with h | h
    · rw [Array.getElem?_eq_getElem (by simpa using h)]; simp
    · rw [Array.getElem?_eq_none (by simpa using h)]; rfl) (fun j o hj h => by cases h) (by rw [leftN_rep _ _ (Nat.le_refl _)]; exact Nat.le_refl _) h0
  rw [putO_none _ _ _ (fun j _ => rfl)] at h1
  simpa using h1
/-- The operations one by one. -/
def KeepsAll (P : Program) (l : List Oper) (a : Act) (C : (Nat → Option Value) → World → Prop) : List Oper → Nat → Prop
  | [], _ => True
  | o :: r, k => (o.guard = none ∧ Keeps P l a C k o) ∧ KeepsAll P l a C r (k + 1)
theorem keeps_of_all {l : List Oper} {a : Act} {C : (Nat → Option Value) → World → Prop} : ∀ (r : List Oper) (k : Nat), KeepsAll P l a C r k → ∀ (i : Nat) (o : Oper), r[i]? = some o → o.guard = none ∧ Keeps P l a C (k + i) o
  | [], _, _, i, o, h => by simp at h
  | x :: r, k, ⟨h1, _⟩, 0, o, h => by simp at h; subst h; exact h1
  | x :: r, k, ⟨_, h2⟩, i + 1, o, h => by
    have := keeps_of_all r (k + 1) h2 i o (by simpa using h)
    rwa [show k + 1 + i = k + (i + 1) by omega] at this
theorem wp_region_keeps {id : Nat} {l : List Oper} {Q : Exit → Act → World → Prop} {a : Act} {w : World} (C : (Nat → Option Value) → World → Prop) (hm : P.follows .mixedOrders = true) (hB : lexOk l.toArray = true)
    (h0 : C (fun _ => none) { w with drawn := w.drawn + 1 }) (hv : KeepsAll P l a C l 0)
    (hq : ∀ (σ : Nat → Option Value) (vs : Nat → Value) (w' : World), C σ w' → (∀ j, j < l.length → σ j = some (vs j)) → Q .normal (putO (fun j => some (vs j)) l 0 a) w') : (Code.region id l.toArray true).wp P Q a w :=
  wp_region_inv C hm hB h0 (fun i o h => by have := keeps_of_all l 0 hv i o h; rwa [Nat.zero_add] at this) hq
end
end Go.Proofs.YtkiaffaieniebaaDoor
namespace Go.Proofs.YtkiaffaieniebaaDoor
open Go.RowKit

theorem row_more {w : World} {base base' : Nat} {e : TypeId} {size n : Nat} {v : Value} {xs : List Value} (h : w.ownsRow base e size v n xs) (hb : base' ≤ base) : w.ownsRow base' e size v n xs := by
  obtain ⟨h1, h2⟩ := h
  refine ⟨h1, ?_⟩
  rcases h2 with h2 | ⟨g, cap, cur, e, hg, h3⟩
  · exact .inl h2
  · exact .inr ⟨g, cap, cur, e, by omega, h3⟩
/-- Where the statement's operations stand: Input, Run, the copy of its results, the two results, the two variables, the two stores. -/
structure Ix where
  (i r m e1 e2 a1 a2 s1 s2 : Nat)
def Ix.all (x : Ix) : List Nat := [x.i, x.r, x.m, x.e1, x.e2, x.a1, x.a2, x.s1, x.s2]
def faultV (f : Int × Int) : Value := .agg #[.int .i64 f.1, .int .i64 f.2]
def outC (s : Mch) (ov : Value) : Array Value := #[.int .i64 s.state, .int .i64 s.value, ov, .int .i64 (s.steps : Int)]
def faultC (f : Int × Int) : Array Value := #[.int .i64 f.1, .int .i64 f.2]
def runV (s : Mch) (ov : Value) (f : Int × Int) : Value := .tuple #[outV s ov, faultV f]
def zeroO : Array Value := #[.int .i64 0, .int .i64 0, .slice none 0 0, .int .i64 0]
def zeroF : Array Value := #[.int .i64 0, .int .i64 0]
/-- What has been done, and what the world holds of it; pv: the values of the other operations. -/
def TwoRun (x : Ix) (pv : Nat → Option Value) (base : Nat) (w0 : World) (xs : List Int) (s : Mch) (f : Int × Int) (σ : Nat → Option Value) (w : World) : Prop :=
  ∃ ov g1 g2, Below base w0 w ∧ base ≤ w.heap.size ∧
    (∀ j v, pv j = some v → ∀ u, σ j = some u → u = v) ∧
    (∀ u, σ x.i = some u → w.ownsRow base 3 1 u xs.length (intV xs)) ∧
    (∀ u, σ x.r = some u → u = runV s ov f ∧ w.ownsRow base 3 1 ov s.out.length (intV s.out)) ∧
    (∀ u, σ x.m = some u → u = runV s ov f) ∧ (∀ u, σ x.e1 = some u → u = outV s ov) ∧ (∀ u, σ x.e2 = some u → u = faultV f) ∧
    (∀ u, σ x.a1 = some u → u = ptrV g1 ∧ base ≤ g1 ∧ (σ x.s1 = none → Blk w g1 28 zeroO) ∧ (∀ u, σ x.s1 = some u → Blk w g1 28 (outC s ov))) ∧
    (∀ u, σ x.a2 = some u → u = ptrV g2 ∧ base ≤ g2 ∧ (σ x.s2 = none → Blk w g2 30 zeroF) ∧ (∀ u, σ x.s2 = some u → Blk w g2 30 (faultC f)))
section
variable {x : Ix} {pv : Nat → Option Value} {base : Nat} {w0 : World} {xs : List Int} {s : Mch} {f : Int × Int} {σ : Nat → Option Value} {w w' : World}
theorem TwoRun.start (hb : Below base w0 w) (hz : base ≤ w.heap.size) : TwoRun x pv base w0 xs s f (fun _ => none) w :=
  ⟨undef, 0, 0, hb, hz, by simp, by simp, by simp, by simp, by simp, by simp, by simp, by simp⟩
theorem TwoRun.below (h : TwoRun x pv base w0 xs s f σ w) (hb : Below w.heap.size w w') : TwoRun x pv base w0 xs s f σ w' := by
  obtain ⟨ov, g1, g2, h1, hz, h2, h3, h4, h5, h6, h7, h8, h9⟩ := h
  refine ⟨ov, g1, g2, h1.trans (hb.mono hz), Nat.le_trans hz hb.size, h2, fun u hu => row_lt (h3 u hu) hb, fun u hu => ⟨(h4 u hu).1, row_lt (h4 u hu).2 hb⟩, h5, h6, h7, fun u hu => ?_, fun u hu => ?_⟩
  · obtain ⟨e1, e2, e3, e4⟩ := h8 u hu
    exact ⟨e1, e2, fun hs => (e3 hs).below hb (e3 hs).lt, fun v hs => (e4 v hs).below hb (e4 v hs).lt⟩
  · obtain ⟨e1, e2, e3, e4⟩ := h9 u hu
    exact ⟨e1, e2, fun hs => (e3 hs).below hb (e3 hs).lt, fun v hs => (e4 v hs).below hb (e4 v hs).lt⟩
theorem TwoRun.drew (h : TwoRun x pv base w0 xs s f σ w) : TwoRun x pv base w0 xs s f σ w.drew := h.below (below_drew (Below.refl _ _))
/-- An operation whose value is known. -/
theorem TwoRun.known (h : TwoRun x pv base w0 xs s f σ w) {k : Nat} {v : Value} (hk : pv k = some v) (hd : ∀ j ∈ x.all, pv j = none) : TwoRun x pv base w0 xs s f (upd σ k v) w := by
  obtain ⟨ov, g1, g2, h1, hz, h2, h3, h4, h5, h6, h7, h8, h9⟩ := h
  have ne : ∀ j ∈ x.all, upd σ k v j = σ j := fun j hj => upd_ne fun e => by rw [← e, hd j hj] at hk; cases hk
  simp only [Ix.all, List.forall_mem_cons, List.not_mem_nil, false_implies, implies_true, and_true] at ne
  obtain ⟨n1, n2, n3, n4, n5, n6, n7, n8, n9⟩ := ne
  rw [TwoRun, n1, n2, n3, n4, n5, n6, n7, n8, n9]
  refine ⟨ov, g1, g2, h1, hz, fun j v' hj u hu => ?_, h3, h4, h5, h6, h7, h8, h9⟩
  by_cases e : j = k
  · subst e
    rw [upd_same] at hu
    rw [hk] at hj
    cases hj
    cases hu
    rfl
  · rw [upd_ne e] at hu
    exact h2 j v' hj u hu
theorem TwoRun.keep (hd : ∀ j ∈ x.all, pv j = none) {k : Nat} (hk : k ∈ x.all) (v : Value) (h : ∀ j v, pv j = some v → ∀ u, σ j = some u → u = v) : ∀ j v', pv j = some v' → ∀ u, upd σ k v j = some u → u = v' := by
  intro j v' hj u hu
  rw [upd_ne fun e => by rw [e, hd k hk] at hj; cases hj] at hu
  exact h j v' hj u hu
theorem Ix.ne (hn : x.all.Nodup) : (x.i ≠ x.r ∧ x.i ≠ x.m ∧ x.i ≠ x.e1 ∧ x.i ≠ x.e2 ∧ x.i ≠ x.a1 ∧ x.i ≠ x.a2 ∧ x.i ≠ x.s1 ∧ x.i ≠ x.s2) ∧ (x.r ≠ x.m ∧ x.r ≠ x.e1 ∧ x.r ≠ x.e2 ∧ x.r ≠ x.a1 ∧ x.r ≠ x.a2 ∧ x.r ≠ x.s1 ∧ x.r ≠ x.s2) ∧
    (x.m ≠ x.e1 ∧ x.m ≠ x.e2 ∧ x.m ≠ x.a1 ∧ x.m ≠ x.a2 ∧ x.m ≠ x.s1 ∧ x.m ≠ x.s2) ∧ (x.e1 ≠ x.e2 ∧ x.e1 ≠ x.a1 ∧ x.e1 ≠ x.a2 ∧ x.e1 ≠ x.s1 ∧ x.e1 ≠ x.s2) ∧ (x.e2 ≠ x.a1 ∧ x.e2 ≠ x.a2 ∧ x.e2 ≠ x.s1 ∧ x.e2 ≠ x.s2) ∧
    (x.a1 ≠ x.a2 ∧ x.a1 ≠ x.s1 ∧ x.a1 ≠ x.s2) ∧ (x.a2 ≠ x.s1 ∧ x.a2 ≠ x.s2) ∧ x.s1 ≠ x.s2 := by
  simpa [Ix.all] using hn
theorem TwoRun.input (h : TwoRun x pv base w0 xs s f σ w) (hn : x.all.Nodup) (hd : ∀ j ∈ x.all, pv j = none) {u : Value} (hb : Below w.heap.size w w') (hu : w'.ownsRow w.heap.size 3 1 u xs.length (intV xs)) : TwoRun x pv base w0 xs s f (upd σ x.i u) w' := by
  obtain ⟨⟨a1, a2, a3, a4, a5, a6, a7, a8⟩, _⟩ := Ix.ne hn
  have hz := (show base ≤ w.heap.size by obtain ⟨_, _, _, _, hz, _⟩ := h; exact hz)
  obtain ⟨ov, g1, g2, h1, hz', h2, h3, h4, h5, h6, h7, h8, h9⟩ := h.below hb
  rw [TwoRun, upd_same, upd_ne a1.symm, upd_ne a2.symm, upd_ne a3.symm, upd_ne a4.symm, upd_ne a5.symm, upd_ne a6.symm, upd_ne a7.symm, upd_ne a8.symm]
  exact ⟨ov, g1, g2, h1, hz', TwoRun.keep hd (by simp [Ix.all]) u h2, fun v hv => by cases hv; exact row_more hu hz, h4, h5, h6, h7, h8, h9⟩
theorem TwoRun.run (h : TwoRun x pv base w0 xs s f σ w) (hn : x.all.Nodup) (hd : ∀ j ∈ x.all, pv j = none) {ov : Value} (hb : Below w.heap.size w w') (hu : w'.ownsRow w.heap.size 3 1 ov s.out.length (intV s.out))
    (hm : σ x.m = none) (he1 : σ x.e1 = none) (hs1 : σ x.s1 = none) : TwoRun x pv base w0 xs s f (upd σ x.r (runV s ov f)) w' := by
  obtain ⟨⟨a1, _⟩, ⟨a2, a3, a4, a5, a6, a7, a8⟩, _⟩ := Ix.ne hn
  have hz := (show base ≤ w.heap.size by obtain ⟨_, _, _, _, hz, _⟩ := h; exact hz)
  obtain ⟨_, g1, g2, h1, hz', h2, h3, h4, h5, h6, h7, h8, h9⟩ := h.below hb
  rw [TwoRun, upd_same, upd_ne a1, upd_ne a2.symm, upd_ne a3.symm, upd_ne a4.symm, upd_ne a5.symm, upd_ne a6.symm, upd_ne a7.symm, upd_ne a8.symm]
  refine ⟨ov, g1, g2, h1, hz', TwoRun.keep hd (by simp [Ix.all]) _ h2, h3, fun v hv => ⟨(by cases hv; rfl), row_more hu hz⟩, fun u hu => ?_, fun u hu => ?_, h7, fun u hu => ?_, h9⟩
  · rw [hm] at hu; cases hu
  · rw [he1] at hu; cases hu
  · obtain ⟨e1, e2, e3, e4⟩ := h8 u hu
    exact ⟨e1, e2, e3, fun v hv => by rw [hs1] at hv; cases hv⟩
theorem TwoRun.isRun (h : TwoRun x pv base w0 xs s f σ w) {u : Value} (hu : σ x.r = some u) : ∃ ov, u = runV s ov f := by
  obtain ⟨ov, g1, g2, h1, hz, h2, h3, h4, h5, h6, h7, h8, h9⟩ := h
  exact ⟨ov, (h4 u hu).1⟩
theorem TwoRun.isCopy (h : TwoRun x pv base w0 xs s f σ w) {u : Value} (hu : σ x.m = some u) : ∃ ov, u = runV s ov f := by
  obtain ⟨ov, g1, g2, h1, hz, h2, h3, h4, h5, h6, h7, h8, h9⟩ := h
  exact ⟨ov, h5 u hu⟩
theorem outV_inj {s : Mch} {a b : Value} (h : outV s a = outV s b) : a = b := by
  unfold outV at h
  simpa using h
theorem runV_inj {s : Mch} {a b : Value} {f : Int × Int} (h : runV s a f = runV s b f) : a = b := by
  unfold runV at h
  exact outV_inj (by simpa using h)
theorem TwoRun.copy (h : TwoRun x pv base w0 xs s f σ w) (hn : x.all.Nodup) (hd : ∀ j ∈ x.all, pv j = none) {u : Value} (hu : σ x.r = some u) : TwoRun x pv base w0 xs s f (upd σ x.m u) w := by
  obtain ⟨⟨_, a1, _⟩, ⟨a2, _⟩, ⟨a3, a4, a5, a6, a7, a8⟩, _⟩ := Ix.ne hn
  obtain ⟨ov, g1, g2, h1, hz', h2, h3, h4, h5, h6, h7, h8, h9⟩ := h
  rw [TwoRun, upd_same, upd_ne a1, upd_ne a2, upd_ne a3.symm, upd_ne a4.symm, upd_ne a5.symm, upd_ne a6.symm, upd_ne a7.symm, upd_ne a8.symm]
  exact ⟨ov, g1, g2, h1, hz', TwoRun.keep hd (by simp [Ix.all]) _ h2, h3, h4, fun v hv => by cases hv; exact (h4 u hu).1, h6, h7, h8, h9⟩
theorem TwoRun.out1 (h : TwoRun x pv base w0 xs s f σ w) (hn : x.all.Nodup) (hd : ∀ j ∈ x.all, pv j = none) {ov : Value} (hu : σ x.m = some (runV s ov f)) : TwoRun x pv base w0 xs s f (upd σ x.e1 (outV s ov)) w := by
  obtain ⟨⟨_, _, a1, _⟩, ⟨_, a2, _⟩, ⟨a3, _⟩, ⟨a4, a5, a6, a7, a8⟩, _⟩ := Ix.ne hn
  obtain ⟨ov', g1, g2, h1, hz', h2, h3, h4, h5, h6, h7, h8, h9⟩ := h
  rw [TwoRun, upd_same, upd_ne a1, upd_ne a2, upd_ne a3, upd_ne a4.symm, upd_ne a5.symm, upd_ne a6.symm, upd_ne a7.symm, upd_ne a8.symm]
  exact ⟨ov', g1, g2, h1, hz', TwoRun.keep hd (by simp [Ix.all]) _ h2, h3, h4, h5, fun v hv => by cases hv; rw [runV_inj (h5 _ hu)], h7, h8, h9⟩
theorem TwoRun.out2 (h : TwoRun x pv base w0 xs s f σ w) (hn : x.all.Nodup) (hd : ∀ j ∈ x.all, pv j = none) : TwoRun x pv base w0 xs s f (upd σ x.e2 (faultV f)) w := by
  obtain ⟨⟨_, _, _, a1, _⟩, ⟨_, _, a2, _⟩, ⟨_, a3, _⟩, ⟨a4, _⟩, ⟨a5, a6, a7, a8⟩, _⟩ := Ix.ne hn
  obtain ⟨ov', g1, g2, h1, hz', h2, h3, h4, h5, h6, h7, h8, h9⟩ := h
  rw [TwoRun, upd_same, upd_ne a1, upd_ne a2, upd_ne a3, upd_ne a4, upd_ne a5.symm, upd_ne a6.symm, upd_ne a7.symm, upd_ne a8.symm]
  exact ⟨ov', g1, g2, h1, hz', TwoRun.keep hd (by simp [Ix.all]) _ h2, h3, h4, h5, h6, fun v hv => by cases hv; rfl, h8, h9⟩
theorem TwoRun.var1 (h : TwoRun x pv base w0 xs s f σ w) (hn : x.all.Nodup) (hd : ∀ j ∈ x.all, pv j = none) (hs : σ x.s1 = none) : TwoRun x pv base w0 xs s f (upd σ x.a1 (ptrV w.heap.size)) (w.alloc (.cells zeroO 28)) := by
  obtain ⟨⟨_, _, _, _, a1, _⟩, ⟨_, _, _, a2, _⟩, ⟨_, _, a3, _⟩, ⟨_, a4, _⟩, ⟨a5, _⟩, ⟨a6, a7, a8⟩, _⟩ := Ix.ne hn
  have hz := (show base ≤ w.heap.size by obtain ⟨_, _, _, _, hz, _⟩ := h; exact hz)
  obtain ⟨ov', g1, g2, h1, hz', h2, h3, h4, h5, h6, h7, h8, h9⟩ := h.below ((Below.refl _ _).alloc (Nat.le_refl _) (.cells zeroO 28))
  rw [TwoRun, upd_same, upd_ne a1, upd_ne a2, upd_ne a3, upd_ne a4, upd_ne a5, upd_ne a6.symm, upd_ne a7.symm, upd_ne a8.symm]
  exact ⟨ov', w.heap.size, g2, h1, hz', TwoRun.keep hd (by simp [Ix.all]) _ h2, h3, h4, h5, h6, h7, fun v hv => ⟨by cases hv; rfl, hz, fun _ => Blk.new _ _ _, fun v hv => by rw [hs] at hv; cases hv⟩, h9⟩
theorem TwoRun.var2 (h : TwoRun x pv base w0 xs s f σ w) (hn : x.all.Nodup) (hd : ∀ j ∈ x.all, pv j = none) (hs : σ x.s2 = none) : TwoRun x pv base w0 xs s f (upd σ x.a2 (ptrV w.heap.size)) (w.alloc (.cells zeroF 30)) := by
  obtain ⟨⟨_, _, _, _, _, a1, _⟩, ⟨_, _, _, _, a2, _⟩, ⟨_, _, _, a3, _⟩, ⟨_, _, a4, _⟩, ⟨_, a5, _⟩, ⟨a6, _⟩, ⟨a7, a8⟩, _⟩ := Ix.ne hn
  have hz := (show base ≤ w.heap.size by obtain ⟨_, _, _, _, hz, _⟩ := h; exact hz)
  obtain ⟨ov', g1, g2, h1, hz', h2, h3, h4, h5, h6, h7, h8, h9⟩ := h.below ((Below.refl _ _).alloc (Nat.le_refl _) (.cells zeroF 30))
  rw [TwoRun, upd_same, upd_ne a1, upd_ne a2, upd_ne a3, upd_ne a4, upd_ne a5, upd_ne a6, upd_ne a7.symm, upd_ne a8.symm]
  exact ⟨ov', g1, w.heap.size, h1, hz', TwoRun.keep hd (by simp [Ix.all]) _ h2, h3, h4, h5, h6, h7, h8, fun v hv => ⟨by cases hv; rfl, hz, fun _ => Blk.new _ _ _, fun v hv => by rw [hs] at hv; cases hv⟩⟩
theorem TwoRun.store1 (h : TwoRun x pv base w0 xs s f σ w) (hn : x.all.Nodup) (hd : ∀ j ∈ x.all, pv j = none) {p q : Value} {r : Value} (hp : σ x.a1 = some p) (hq : σ x.e1 = some q) (hr : σ x.r = some r) (hs : σ x.s1 = none) :
    ∃ ov g, (∃ A n c, ov = .slice A n c) ∧ p = ptrV g ∧ q = outV s ov ∧ Blk w g 28 zeroO ∧ TwoRun x pv base w0 xs s f (upd σ x.s1 undef) ((((w.setCell ⟨g, 0, none⟩ (.int .i64 s.state)).setCell ⟨g, 1, none⟩ (.int .i64 s.value)).setCell ⟨g, 2, none⟩ ov).setCell ⟨g, 3, none⟩ (.int .i64 (s.steps : Int))) := by
  obtain ⟨⟨_, _, _, _, _, _, a1, _⟩, ⟨_, _, _, _, _, a2, _⟩, ⟨_, _, _, _, a3, _⟩, ⟨_, _, _, a4, _⟩, ⟨_, _, a5, _⟩, ⟨_, a6, _⟩, ⟨a7, _⟩, a8⟩ := Ix.ne hn
  obtain ⟨ov, g1, g2, h1, hz, h2, h3, h4, h5, h6, h7, h8, h9⟩ := h
  obtain ⟨rfl, b1, b2, b3⟩ := h8 p hp
  have hk := b2 hs
  refine ⟨ov, g1, by obtain ⟨A, c, e⟩ := row_form (h4 _ hr).2; exact ⟨A, _, c, e⟩, rfl, h6 q hq, hk, ?_⟩
  have hk1 := hk.set_ 0 (.int .i64 s.state)
  have hk2 := hk1.set_ 1 (.int .i64 s.value)
  have hk3 := hk2.set_ 2 ov
  have hrow : ∀ {v : Value} {n : Nat} {ys : List Value}, w.ownsRow base 3 1 v n ys → ((((w.setCell ⟨g1, 0, none⟩ (.int .i64 s.state)).setCell ⟨g1, 1, none⟩ (.int .i64 s.value)).setCell ⟨g1, 2, none⟩ ov).setCell ⟨g1, 3, none⟩ (.int .i64 (s.steps : Int))).ownsRow base 3 1 v n ys :=
    fun hr => row_far (row_far (row_far (row_far hr hk (by decide) _) hk1 (by decide) _) hk2 (by decide) _) hk3 (by decide) _
  have hfar : ∀ {cs : Array Value}, Blk w g2 30 cs → Blk ((((w.setCell ⟨g1, 0, none⟩ (.int .i64 s.state)).setCell ⟨g1, 1, none⟩ (.int .i64 s.value)).setCell ⟨g1, 2, none⟩ ov).setCell ⟨g1, 3, none⟩ (.int .i64 (s.steps : Int))) g2 30 cs := fun hr => by
    have hne : g2 ≠ g1 := Blk.types hr hk (by decide)
    exact (((hr.far (p := ⟨g1, 0, none⟩) hne _).far (p := ⟨g1, 1, none⟩) hne _).far (p := ⟨g1, 2, none⟩) hne _).far (p := ⟨g1, 3, none⟩) hne _
  rw [TwoRun, upd_same, upd_ne a1, upd_ne a2, upd_ne a3, upd_ne a4, upd_ne a5, upd_ne a6, upd_ne a7, upd_ne a8.symm]
  refine ⟨ov, g1, g2, (((h1.setCell b1 _).setCell b1 _).setCell b1 _).setCell b1 _, by simpa using hz, TwoRun.keep hd (by simp [Ix.all]) _ h2, fun u hu => hrow (h3 u hu), fun u hu => ⟨(h4 u hu).1, hrow (h4 u hu).2⟩, h5, h6, h7, fun v hv => ⟨by rw [hp] at hv; cases hv; rfl, b1, fun h => (by cases h), fun _ _ => hk3.set_ 3 (.int .i64 (s.steps : Int))⟩, fun v hv => ?_⟩
  obtain ⟨c1, c2, c3, c4⟩ := h9 v hv
  exact ⟨c1, c2, fun hs => hfar (c3 hs), fun u hu => hfar (c4 u hu)⟩
theorem TwoRun.store2 (h : TwoRun x pv base w0 xs s f σ w) (hn : x.all.Nodup) (hd : ∀ j ∈ x.all, pv j = none) {p q : Value} (hp : σ x.a2 = some p) (hq : σ x.e2 = some q) (hs : σ x.s2 = none) :
    ∃ g, p = ptrV g ∧ q = faultV f ∧ Blk w g 30 zeroF ∧ TwoRun x pv base w0 xs s f (upd σ x.s2 undef) ((w.setCell ⟨g, 0, none⟩ (.int .i64 f.1)).setCell ⟨g, 1, none⟩ (.int .i64 f.2)) := by
  obtain ⟨⟨_, _, _, _, _, _, _, a1⟩, ⟨_, _, _, _, _, _, a2⟩, ⟨_, _, _, _, _, a3⟩, ⟨_, _, _, _, a4⟩, ⟨_, _, _, a5⟩, ⟨_, _, a6⟩, ⟨_, a7⟩, a8⟩ := Ix.ne hn
  obtain ⟨ov, g1, g2, h1, hz, h2, h3, h4, h5, h6, h7, h8, h9⟩ := h
  obtain ⟨rfl, b1, b2, b3⟩ := h9 p hp
  have hk := b2 hs
  refine ⟨g2, rfl, h7 q hq, hk, ?_⟩
  have hk1 := hk.set_ 0 (.int .i64 f.1)
  have hrow : ∀ {v : Value} {n : Nat} {ys : List Value}, w.ownsRow base 3 1 v n ys → ((w.setCell ⟨g2, 0, none⟩ (.int .i64 f.1)).setCell ⟨g2, 1, none⟩ (.int .i64 f.2)).ownsRow base 3 1 v n ys :=
    fun hr => row_far (row_far hr hk (by decide) _) hk1 (by decide) _
  have hfar : ∀ {cs : Array Value}, Blk w g1 28 cs → Blk ((w.setCell ⟨g2, 0, none⟩ (.int .i64 f.1)).setCell ⟨g2, 1, none⟩ (.int .i64 f.2)) g1 28 cs := fun hr => by
    have hne : g1 ≠ g2 := Blk.types hr hk (by decide)
    exact (hr.far (p := ⟨g2, 0, none⟩) hne _).far (p := ⟨g2, 1, none⟩) hne _
  rw [TwoRun, upd_same, upd_ne a1, upd_ne a2, upd_ne a3, upd_ne a4, upd_ne a5, upd_ne a6, upd_ne a7, upd_ne a8]
  refine ⟨ov, g1, g2, (h1.setCell b1 _).setCell b1 _, by simpa using hz, TwoRun.keep hd (by simp [Ix.all]) _ h2, fun u hu => hrow (h3 u hu), fun u hu => ⟨(h4 u hu).1, hrow (h4 u hu).2⟩, h5, h6, h7, fun v hv => ?_, fun v hv => ⟨by rw [hp] at hv; cases hv; rfl, b1, fun h => (by cases h), fun _ _ => hk1.set_ 1 (.int .i64 f.2)⟩⟩
  obtain ⟨c1, c2, c3, c4⟩ := h8 v hv
  exact ⟨c1, c2, fun hs => hfar (c3 hs), fun u hu => hfar (c4 u hu)⟩
/-- The end of the statement. -/
theorem TwoRun.done (h : TwoRun x pv base w0 xs s f σ w) {p1 p2 q1 q2 r : Value} (ha1 : σ x.a1 = some p1) (ha2 : σ x.a2 = some p2) (hs1 : σ x.s1 = some q1) (hs2 : σ x.s2 = some q2) (hr : σ x.r = some r) :
    ∃ ov g1 g2, p1 = ptrV g1 ∧ p2 = ptrV g2 ∧ Blk w g1 28 (outC s ov) ∧ Blk w g2 30 (faultC f) ∧ base ≤ g1 ∧ base ≤ g2 ∧ w.ownsRow base 3 1 ov s.out.length (intV s.out) ∧ Below base w0 w := by
  obtain ⟨ov, g1, g2, h1, hz, h2, h3, h4, h5, h6, h7, h8, h9⟩ := h
  obtain ⟨b1, b2, b3, b4⟩ := h8 _ ha1
  obtain ⟨c1, c2, c3, c4⟩ := h9 _ ha2
  exact ⟨ov, g1, g2, b1, c1, b4 _ hs1, c4 _ hs2, b2, c2, (h4 _ hr).2, h1⟩
theorem TwoRun.low (h : TwoRun x pv base w0 xs s f σ w) : Below base w0 w ∧ base ≤ w.heap.size := by
  obtain ⟨ov, g1, g2, h1, hz, _⟩ := h
  exact ⟨h1, hz⟩
theorem TwoRun.isInput (h : TwoRun x pv base w0 xs s f σ w) {u : Value} (hu : σ x.i = some u) : w.ownsRow base 3 1 u xs.length (intV xs) := by
  obtain ⟨ov, g1, g2, h1, hz, h2, h3, _⟩ := h
  exact h3 u hu
/-- What waits for an operation that is to come is to come. -/
theorem not_done {l : List Oper} {σ : Nat → Option Value} (h : Closed l σ) {k j : Nat} {o : Oper} (hk : σ k = none) (ho : l[j]? = some o) (hd : (o.after.toList.any fun e => e.on == k && Region.binds .any e) = true) : σ j = none := by
  cases hj : σ j with
  | none => rfl
  | some u =>
    exfalso
    obtain ⟨e, he, h2⟩ := List.any_eq_true.1 hd
    simp only [Bool.and_eq_true, beq_iff_eq] at h2
    have := h j o ho (by rw [hj]; rfl) e he h2.2
    rw [h2.1, hk] at this
    cases this
end
end Go.Proofs.YtkiaffaieniebaaDoor
