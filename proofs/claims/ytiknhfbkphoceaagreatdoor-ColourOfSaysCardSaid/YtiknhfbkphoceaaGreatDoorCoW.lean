/-
  Several texts in one (Ink CoV CoW): what each proves stands at its theorems.
  Conditions: as the theorems say.
-/
import Derived.Test.YtiknhfbkphoceaaGreatDoorIng
import Derived.Test.YtiknhfbkphoceaaGreatDoorCoN
namespace Go.Proofs.YtiknhfbkphoceaaGreatDoor
open Go

section
variable {P : Program}
/-- Operation j waits for operation k. -/
def lateO (l : List Oper) (k j : Nat) : Bool := match l[j]? with
  | some o => o.after.toList.any fun e => e.on == k && Region.binds .any e
  | none => false
/-- The region's edges order each operation behind, or ahead of, those that write the slots it reads. -/
def lexLate (ops : Array Oper) : Bool := Region.noSelect ops && (List.range ops.size).all fun i => match ops[i]? with
  | some oi => (oi.after.toList.all fun e => !Region.binds .any e || decide (e.on < i)) && (List.range ops.size).all fun j => match ops[j]? with
    | some oj => (match oj.dst with
      | some d => (i == j || oi.dst != some d) && (!(oi.looksAt ops).contains d || (oi.after.toList.any fun e => Region.binds .any e && e.on == j) || (oj.after.toList.any fun e => Region.binds .any e && e.on == i))
      | none => true)
    | none => true
  | none => true
theorem lexLate_spec {ops : Array Oper} (h : lexLate ops = true) (i : Nat) (oi : Oper) (hi : ops[i]? = some oi) :
    (∀ e, e ∈ oi.after.toList → Region.binds .any e = true → e.on < i) ∧
    ∀ (j : Nat) (oj : Oper) (d : Tmp), ops[j]? = some oj → oj.dst = some d → (i ≠ j → oi.dst ≠ some d) ∧
      (d ∈ oi.looksAt ops → (∃ e, e ∈ oi.after.toList ∧ Region.binds .any e = true ∧ e.on = j) ∨ ∃ e, e ∈ oj.after.toList ∧ Region.binds .any e = true ∧ e.on = i) := by
  unfold lexLate at h
  rw [Bool.and_eq_true, List.all_eq_true] at h
  have hi' : i < ops.size := by
    rcases Nat.lt_or_ge i ops.size with h' | h'
    · exact h'
    · rw [Array.getElem?_eq_none h'] at hi; cases hi
  have h1 := h.2 i (List.mem_range.2 hi')
  simp only [hi, Bool.and_eq_true, List.all_eq_true] at h1
  refine ⟨fun e he hb => ?_, fun j oj d hj hd => ?_⟩
  · have := h1.1 e he
    simpa [hb] using this
  · have hj' : j < ops.size := by
      rcases Nat.lt_or_ge j ops.size with h' | h'
      · exact h'
      · rw [Array.getElem?_eq_none h'] at hj; cases hj
    have h2 := h1.2 j (List.mem_range.2 hj')
    simp only [hj, hd, Bool.and_eq_true, Bool.or_eq_true] at h2
    refine ⟨fun hne => ?_, fun hm => ?_⟩
    · rcases h2.1 with h3 | h3
      · exact absurd (by simpa using h3) hne
      · simpa using h3
    · rcases h2.2 with (h3 | h3) | h3
      · simp at h3; exact absurd hm h3
      · obtain ⟨e, he, h4⟩ := List.any_eq_true.1 h3
        simp only [Bool.and_eq_true, beq_iff_eq] at h4
        exact .inl ⟨e, he, h4⟩
      · obtain ⟨e, he, h4⟩ := List.any_eq_true.1 h3
        simp only [Bool.and_eq_true, beq_iff_eq] at h4
        exact .inr ⟨e, he, h4⟩
/-- Each operation, whenever it comes up, keeps C; what waits for it has not been done. -/
structure KeepsL (P : Program) (l : List Oper) (a : Act) (C : (Nat → Option Value) → World → Prop) (k : Nat) (o : Oper) : Prop where
  of ::
  run : ∀ (σ : Nat → Option Value) (vs : Nat → Value) (w : World), (∀ j u, σ j = some u → u = vs j) → Closed l σ → C σ w → σ k = none →
    (∀ e, e ∈ o.after.toList → Region.binds .any e = true → σ e.on = some (vs e.on)) →
    uponR P (fun u w' => C (upd σ k u) w') ((execOp (putO (fun j => if lateO l k j = true then none else some (vs j)) l 0 a).eval o).run P w)
theorem wpAny_late {ops : Array Oper} {l : List Oper} (hl : ops = l.toArray) {C : (Nat → Option Value) → World → Prop} {Q : Exit → Act → World → Prop} {a : Act} (hB : lexLate ops = true)
    (hv : ∀ (i : Nat) (o : Oper), l[i]? = some o → o.guard = none ∧ KeepsL P l a C i o)
    (hq : ∀ (σ : Nat → Option Value) (vs : Nat → Value) (w' : World), C σ w' → (∀ j, j < l.length → σ j = some (vs j)) → Q .normal (putO (fun j => some (vs j)) l 0 a) w') :
    ∀ (fuel : Nat) (L : Array Bool) (σ : Nat → Option Value) (w' : World), L.size = l.length → (∀ j, L.getD j false = (σ j).isSome) → Closed l σ → leftN (fun j => L.getD j false) l.length ≤ fuel → C σ w' →
      wpAny P .any ops Q fuel L (putO σ l 0 a) w' := by
  have hops : ∀ i : Nat, ops[i]? = l[i]? := fun i => by rw [hl]; simp
  have hsz : ops.size = l.length := by rw [hl]; simp
  have hsel := Region.noSelect_spec (ops := ops) (by unfold lexLate at hB; exact (Bool.and_eq_true_iff.1 hB).1)
  have hall : ∀ (L : Array Bool) (σ : Nat → Option Value) (w' : World), (∀ j, L.getD j false = (σ j).isSome) → C σ w' → (∀ j, j < l.length → L.getD j false = true) → Q .normal (putO σ l 0 a) w' := fun L σ w' hs hC hL => by
    have h : ∀ j, j < l.length → σ j = some ((σ j).getD undef) := fun j hj => by
      have := hL j hj
      rw [hs j] at this
      cases h : σ j with
      | none => rw [h] at this; cases this
      | some u => rfl
    rw [putO_congr (τ := fun j => some ((σ j).getD undef)) l 0 a fun j _ hj => h j (by omega)]
    exact hq σ _ w' hC h
  have mem_ready : ∀ (L : Array Bool) (i : Nat), i ∈ Region.ready .any ops L ↔ i < l.length ∧ L.getD i true = false ∧ ∃ o, l[i]? = some o ∧ ∀ e, e ∈ o.after.toList → Region.binds .any e = true → L.getD e.on false = true := by
    intro L i
    unfold Region.ready
    rw [List.mem_filter, List.mem_range, hsz]
    refine ⟨fun ⟨h1, h2⟩ => ⟨h1, ?_⟩, fun ⟨h1, h2, o, h3, h4⟩ => ⟨h1, ?_⟩⟩
    · simp only [Bool.and_eq_true, Bool.not_eq_true'] at h2
      refine ⟨h2.1, ?_⟩
      have h3 := h2.2
      rw [hops] at h3
      cases ho : l[i]? with
      | none => rw [ho] at h3; simp at h3
      | some o =>
        rw [ho] at h3
        refine ⟨o, rfl, fun e he hb => ?_⟩
        simp only [Option.map_some, Option.getD_some] at h3
        have := Array.all_eq_true_iff_forall_mem.1 h3 e (by simpa using he)
        simpa [hb] using this
    · simp only [Bool.and_eq_true, Bool.not_eq_true']
      refine ⟨h2, ?_⟩
      rw [hops, h3]
      simp only [Option.map_some, Option.getD_some]
      rw [Array.all_eq_true_iff_forall_mem]
      intro e he
      by_cases hb : Region.binds .any e = true
      · simp [hb, h4 e (by simpa using he) hb]
      · simp [hb]
  have getD_true : ∀ (L : Array Bool) (i : Nat), L.size = l.length → i < l.length → L.getD i true = L.getD i false := fun L i h1 h2 => by
    simp [Array.getD, h1, h2]
  have none_ready : ∀ (L : Array Bool), L.size = l.length → Region.ready .any ops L = [] → ∀ j, j < l.length → L.getD j false = true := by
    intro L hLs hr
    intro j
    induction j using Nat.strongRecOn with
    | ind j ih =>
      intro hj
      by_cases h : L.getD j false = true
      · exact h
      · exfalso
        have hmem : j ∈ Region.ready .any ops L := by
          rw [mem_ready]
          have hlj : l[j]? = some l[j] := List.getElem?_eq_getElem hj
          refine ⟨hj, by rw [getD_true L j hLs hj]; simpa using h, l[j], hlj, fun e he hb => ?_⟩
          have hlt := (lexLate_spec hB j l[j] (by rw [hops, hlj])).1 e he hb
          exact ih e.on hlt (by omega)
        rw [hr] at hmem
        cases hmem
  intro fuel
  induction fuel with
  | zero =>
    intro L σ w' hLs hs hcl hf hC
    have hl0 := leftN_zero l.length (by omega : leftN (fun j => L.getD j false) l.length = 0)
    refine ⟨?_, hall L σ w' hs hC hl0⟩
    rw [List.eq_nil_iff_forall_not_mem]
    intro i hi
    rw [mem_ready] at hi
    have := hl0 i hi.1
    rw [← getD_true L i hLs hi.1, hi.2.1] at this
    cases this
  | succ fuel ih =>
    intro L σ w' hLs hs hcl hf hC
    refine ⟨fun hr => hall L σ w' hs hC (none_ready L hLs hr), fun i hi => ?_⟩
    rw [mem_ready] at hi
    obtain ⟨hil, hLi, o, ho, hdep⟩ := hi
    obtain ⟨hgd, hK⟩ := hv i o ho
    have hLi' : L.getD i false = false := by rw [← getD_true L i hLs hil]; exact hLi
    have hσi : σ i = none := by
      have := hs i
      rw [hLi'] at this
      cases h : σ i with
      | none => rfl
      | some u => rw [h] at this; cases this
    have hset : ∀ j : Nat, (L.setIfInBounds i true).getD j false = if j = i then true else L.getD j false := by
      intro j
      simp only [Array.getD_eq_getD_getElem?]
      by_cases e : j = i
      · subst e; rw [Array.getElem?_setIfInBounds]; simp [hLs, hil]
      · rw [Array.getElem?_setIfInBounds_ne (fun h => e h.symm)]; simp [e]
    have goon : ∀ (u : Value) (w'' : World), C (upd σ i u) w'' → wpAny P .any ops Q fuel (L.setIfInBounds i true) ((putO σ l 0 a).put o.dst u) w'' := by
      intro u w'' hC'
      rw [putO_set (σ := σ) (τ := upd σ i u) l 0 a i o u ho (by rw [Nat.zero_add]; exact hσi) (by rw [Nat.zero_add]; exact upd_same _ _ _)
        (fun j hj => upd_ne (by omega)) (fun j o' hj hne d hd hd' => (((lexLate_spec hB i o (by rw [hops, ho])).2 j o' d (by rw [hops, hj]) hd').1 (fun e => hne e.symm)) hd)]
      refine ih _ _ w'' (by simp [hLs]) (fun j => ?_) (fun j o' hj hjs e he hb => ?_) ?_ hC'
      · rw [hset]
        unfold upd
        split
        · rfl
        · exact hs j
      · unfold upd at hjs ⊢
        split
        · rfl
        · by_cases hji : j = i
          · subst hji
            rw [ho] at hj
            cases hj
            rw [← hs]
            exact hdep e he hb
          · rw [if_neg hji] at hjs
            exact hcl j o' hj hjs e he hb
      · have := leftN_set (S := fun j => L.getD j false) (S' := fun j => (L.setIfInBounds i true).getD j false) (i := i) hLi' (by rw [hset]; simp) (fun j hj => by rw [hset, if_neg hj]) l.length hil
        omega
    have hdep' : ∀ e, e ∈ o.after.toList → Region.binds .any e = true → σ e.on = some ((fun j => (σ j).getD undef) e.on) := fun e he hb => by
      have := hdep e he hb
      rw [hs] at this
      simp only
      cases h : σ e.on with
      | none => rw [h] at this; cases this
      | some u => rfl
    have hlate : ∀ j, lateO l i j = true → σ j = none := by
      intro j hj
      cases h : σ j with
      | none => rfl
      | some u =>
        exfalso
        unfold lateO at hj
        cases ho' : l[j]? with
        | none => rw [ho'] at hj; simp at hj
        | some o' =>
          rw [ho'] at hj
          simp only [List.any_eq_true, Bool.and_eq_true, beq_iff_eq] at hj
          obtain ⟨e, he, hon, hb⟩ := hj
          have := hcl j o' ho' (by rw [h]; rfl) e he hb
          rw [hon, hσi] at this
          cases this
    have hsame : ∀ d, d ∈ o.looksAt ops → (putO σ l 0 a).tmps[d]? = (putO (fun j => if lateO l i j = true then none else some ((σ j).getD undef)) l 0 a).tmps[d]? := by
      intro d hd
      refine putO_slot d l 0 a a rfl fun j oj hj hjd => ?_
      simp only [Nat.zero_add]
      by_cases hl' : lateO l i j = true
      · rw [if_pos hl']
        exact hlate j hl'
      · rw [if_neg hl']
        rcases ((lexLate_spec hB i o (by rw [hops, ho])).2 j oj d (by rw [hops, hj]) hjd).2 hd with ⟨e, he, hb, hon⟩ | ⟨e, he, hb, hon⟩
        · have := hdep' e he hb
          rw [hon] at this
          exact this
        · exfalso
          apply hl'
          unfold lateO
          rw [hj]
          simp only [List.any_eq_true, Bool.and_eq_true, beq_iff_eq]
          exact ⟨e, he, hon, hb⟩
    have hexec : execOp (putO σ l 0 a).eval o = execOp (putO (fun j => if lateO l i j = true then none else some ((σ j).getD undef)) l 0 a).eval o := by
      refine execOp_congr o (fun cs b => hsel i o cs b (by rw [hops, ho])) fun x hx => ?_
      cases x with
      | tmp t =>
        have := hsame t (by unfold Oper.looksAt; exact List.mem_append_left _ (List.mem_filterMap.2 ⟨.tmp t, by simpa using hx, rfl⟩))
        generalize putO σ l 0 a = A at this ⊢
        generalize putO (fun j => if lateO l i j = true then none else some ((σ j).getD undef)) l 0 a = A' at this ⊢
        simp only [Act.eval, Array.getD_eq_getD_getElem?, this]
      | const v => rfl
      | global g => rfl
      | func f => rfl
    have h3 := hK.run σ (fun j => (σ j).getD undef) w' (fun j u h => by rw [h]; rfl) hcl hC hσi hdep'
    unfold wpOp
    rw [hops, ho]
    simp only
    rw [if_pos (by simp [Region.wanted, hgd])]
    refine .inl ?_
    unfold Oper.wp
    rw [hexec]
    generalize (execOp (putO (fun j => if lateO l i j = true then none else some ((σ j).getD undef)) l 0 a).eval o).run P w' = r at h3 ⊢
    cases r with
    | ok n w'' =>
      cases n <;> simp only [uponR] at h3 <;> simp only [Oper.upon]
      case value u => exact goon _ _ h3
      case skip => exact goon _ _ h3
      case enter f args => exact h3.mono fun e w3 ⟨u, he, hC3⟩ => by subst he; exact goon _ _ hC3
    | halt x w'' => simp only [uponR] at h3

theorem wp_region_late {id : Nat} {l : List Oper} {Q : Exit → Act → World → Prop} {a : Act} {w : World} (C : (Nat → Option Value) → World → Prop) (hm : P.follows .mixedOrders = true) (hB : lexLate l.toArray = true)
    (h0 : C (fun _ => none) { w with drawn := w.drawn + 1 })
    (hv : ∀ (i : Nat) (o : Oper), l[i]? = some o → o.guard = none ∧ KeepsL P l a C i o)
    (hq : ∀ (σ : Nat → Option Value) (vs : Nat → Value) (w' : World), C σ w' → (∀ j, j < l.length → σ j = some (vs j)) → Q .normal (putO (fun j => some (vs j)) l 0 a) w') : (Code.region id l.toArray true).wp P Q a w := by
  refine wp_region_any hm ?_
  have h1 := wpAny_late (ops := l.toArray) rfl hB hv hq l.length (Array.replicate l.length false) (fun _ => none) _ (by simp) (fun j => by
    simp only [Array.getD_eq_getD_getElem?]
    rcases Nat.lt_or_ge j l.length with h | h
    · rw [Array.getElem?_eq_getElem (by simpa using h)]; simp
    · rw [Array.getElem?_eq_none (by simpa using h)]; rfl) (fun j o hj h => by cases h) (by rw [leftN_rep _ _ (Nat.le_refl _)]; exact Nat.le_refl _) h0
  rw [putO_none _ _ _ (fun j _ => rfl)] at h1
  simpa using h1
def KeepsAllL (P : Program) (l : List Oper) (a : Act) (C : (Nat → Option Value) → World → Prop) : List Oper → Nat → Prop
  | [], _ => True
  | o :: r, k => (o.guard = none ∧ KeepsL P l a C k o) ∧ KeepsAllL P l a C r (k + 1)
theorem keeps_of_allL {l : List Oper} {a : Act} {C : (Nat → Option Value) → World → Prop} : ∀ (r : List Oper) (k : Nat), KeepsAllL P l a C r k → ∀ (i : Nat) (o : Oper), r[i]? = some o → o.guard = none ∧ KeepsL P l a C (k + i) o
  | [], _, _, i, o, h => by simp at h
  | x :: r, k, ⟨h1, _⟩, 0, o, h => by simp at h; subst h; exact h1
  | x :: r, k, ⟨_, h2⟩, i + 1, o, h => by
    have := keeps_of_allL r (k + 1) h2 i o (by simpa using h)
    rwa [show k + 1 + i = k + (i + 1) by omega] at this
theorem wp_region_keepsL {id : Nat} {l : List Oper} {Q : Exit → Act → World → Prop} {a : Act} {w : World} (C : (Nat → Option Value) → World → Prop) (hm : P.follows .mixedOrders = true) (hB : lexLate l.toArray = true)
    (h0 : C (fun _ => none) { w with drawn := w.drawn + 1 }) (hv : KeepsAllL P l a C l 0)
    (hq : ∀ (σ : Nat → Option Value) (vs : Nat → Value) (w' : World), C σ w' → (∀ j, j < l.length → σ j = some (vs j)) → Q .normal (putO (fun j => some (vs j)) l 0 a) w') : (Code.region id l.toArray true).wp P Q a w :=
  wp_region_late C hm hB h0 (fun i o h => by have := keeps_of_allL l 0 hv i o h; rwa [Nat.zero_add] at this) hq
/-- What an operation yields, behind a name that no reckoning opens. -/
structure UponR (P : Program) (C : Value → World → Prop) (r : Result Next) : Prop where
  out : uponR P C r
theorem KeepsL.mk {l : List Oper} {a : Act} {C : (Nat → Option Value) → World → Prop} {k : Nat} {o : Oper} (lt : Nat → Bool) (h : ((List.range l.length).all fun j => lateO l k j == lt j) = true)
    (hk : ∀ (σ : Nat → Option Value) (vs : Nat → Value) (w : World), (∀ j u, σ j = some u → u = vs j) → Closed l σ → C σ w → σ k = none →
      (∀ e, e ∈ o.after.toList → Region.binds .any e = true → σ e.on = some (vs e.on)) →
      UponR P (fun u w' => C (upd σ k u) w') ((execOp (putO (fun j => if lt j = true then none else some (vs j)) l 0 a).eval o).run P w)) : KeepsL P l a C k o := by
  refine ⟨fun σ vs w h1 h2 h3 h4 h5 => ?_⟩
  rw [putO_congr (τ := fun j => if lt j = true then none else some (vs j)) l 0 a fun j _ hj => by
    have := List.all_eq_true.1 h j (List.mem_range.2 (by omega))
    rw [beq_iff_eq] at this
    simp only [this]]
  exact (hk σ vs w h1 h2 h3 h4 h5).out
end
end Go.Proofs.YtiknhfbkphoceaaGreatDoor
namespace Go.Proofs.YtiknhfbkphoceaaGreatDoor
open Go.RowKit
attribute [local go_sem] Oper.semAt_some

set_option maxHeartbeats 1000000 in
theorem RWithin_any (v : Value) (xs : List Int) (x : Int) (B : Nat) (w : World) (hv : IntsAt w B v xs) :
    Calls Tryz.prog 26 #[v, .int .i64 x] w fun e w' => e = .returned (.bool (hasN xs x)) ∧ w = w' := by
  obtain ⟨A, c, rfl, hl, hc63, hcell⟩ := hv
  have HC := Lib.hid hcell
  clear hcell
  obtain ⟨len, hlen⟩ : ∃ len, xs.length = len := ⟨_, rfl⟩
  have HL := Lib.hid hlen
  rw [hlen] at hl HC ⊢
  clear hlen
  go_enter Tryz.func26, Tryz.ntmps26
  go_wp2_with fail
  go_loop [5] (fun i => ∃ k : Nat, k ≤ len ∧ i = .int .i64 k ∧ Hid (∀ (j : Nat) (y : Int), j < k → xs[j]? = some y → y ≠ x)) (fun i => len - (intOf i).toNat)
  case atStart => exact ⟨0, Nat.zero_le _, rfl, Lib.hid (fun j y h => absurd h (Nat.not_lt_zero j))⟩
  case round =>
    obtain ⟨k, hk, rfl, HF⟩ := hrel
    by_cases hlt : k < len
    · obtain ⟨b, off, hA, _, hcc⟩ := HC.out (by omega)
      subst hA
      obtain ⟨y, hy⟩ : ∃ y, xs[k]? = some y := ⟨xs[k]'(by rw [HL.out]; exact hlt), List.getElem?_eq_getElem _⟩
      have cy := hcc k y hy
      have Hy := Lib.hid hy
      clear hy hcc
      by_cases he : y = x
      · have hb : (y == x) = true := by simp [he]
        have HE : Hid (hasN xs x = true) := Lib.hid (by unfold hasN; rw [List.any_eq_true]; exact ⟨y, List.mem_of_getElem? Hy.out, hb⟩)
        clear he
        go_wp2_with fail
        go_ret
        exact ⟨ret_bool HE.out.symm, rfl⟩
      · have hb : (y == x) = false := by simp [he]
        have He := Lib.hid he
        clear he
        go_wp2_with fail
        go_round
        case rel =>
          refine ⟨k + 1, by omega, by go_num, Lib.hid fun j z hj hz => ?_⟩
          rcases Nat.lt_or_ge j k with h | h
          · exact HF.out j z h hz
          · obtain rfl : j = k := by omega
            rw [Hy.out] at hz
            cases hz
            exact He.out
        case measure => simp [intOf]; omega
    · have HE : Hid (hasN xs x = false) := Lib.hid (by
        unfold hasN
        rw [List.any_eq_false]
        intro y hy
        obtain ⟨j, hj⟩ := List.mem_iff_getElem?.1 hy
        have hjl := (List.getElem?_eq_some_iff.1 hj).1
        have := HF.out j y (by have := HL.out; omega) hj
        simpa using this)
      go_wp2_with fail
      go_ret
      exact ⟨ret_bool HE.out.symm, rfl⟩

set_option maxRecDepth 100000 in
set_option maxHeartbeats 2000000 in
theorem RTaken_any (rv pv : Value) (row ps : List Int) (place : Int) (w : World) (hr : IntsAt w w.heap.size rv row) (hp : IntsAt w w.heap.size pv ps) (ho : ∀ o ∈ row, 0 ≤ o ∧ o < (ps.length : Int)) :
    Calls Tryz.prog 25 #[rv, pv, .int .i64 place] w fun e w' => e = .returned (.bool (takenB row ps place)) ∧ w = w' := by
  obtain ⟨A, c, rfl, hl, hc63, hcell⟩ := hr
  obtain ⟨P, d, rfl, _, _, hpc⟩ := hp
  have HC := Lib.hid hcell
  have HPc := Lib.hid hpc
  have HO := Lib.hid ho
  obtain ⟨len, hlen⟩ : ∃ len, row.length = len := ⟨_, rfl⟩
  have HL := Lib.hid hlen
  obtain ⟨pl, hpl⟩ : ∃ pl, ps.length = pl := ⟨_, rfl⟩
  have HPl := Lib.hid hpl
  rw [hlen] at hl HC ⊢
  rw [hpl] at HO HPc ⊢
  clear hlen hcell hpc ho hpl
  go_enter Tryz.func25, Tryz.ntmps25
  go_upto_region 2 with fail
  go_loopg [7] len (fun gk i wr => ∃ k : Nat, k + gk = len ∧ i = .int .i64 (k : Int) ∧ wr = w ∧ Hid (takenB (row.take k) ps place = false))
  case atStart => exact ⟨0, by omega, rfl, rfl, Lib.hid (by rw [List.take_zero]; rfl)⟩
  case round =>
    obtain ⟨k, hk, rfl, rfl, HF⟩ := hrel
    rcases gk with _ | mk
    · have hlt : ¬ (k : Int) < (len : Int) := by omega
      have HE : Hid (takenB row ps place = false) := Lib.hid (by
        have := HF.out
        rwa [List.take_of_length_le (by have := HL.out; omega)] at this)
      go_wp2_with fail
      go_ret
      exact ⟨ret_bool HE.out.symm, rfl⟩
    · have hlt : (k : Int) < (len : Int) := by omega
      have hk0 : (0 : Int) ≤ (k : Int) := Int.natCast_nonneg k
      obtain ⟨b, off, rfl, _, hcc⟩ := HC.out (by omega)
      obtain ⟨o, hoo⟩ : ∃ o, row[k]? = some o := ⟨row[k]'(by rw [HL.out]; omega), List.getElem?_eq_getElem _⟩
      have co := hcc k o hoo
      obtain ⟨ho0, ho1⟩ := HO.out o (List.mem_of_getElem? hoo)
      obtain ⟨on, rfl⟩ : ∃ on : Nat, o = (on : Int) := ⟨o.toNat, by omega⟩
      obtain ⟨b2, off2, rfl, _, hcc2⟩ := HPc.out (by omega)
      obtain ⟨y, hy⟩ : ∃ y, ps[on]? = some y := ⟨ps[on]'(by rw [HPl.out]; omega), List.getElem?_eq_getElem _⟩
      have cy := hcc2 on y hy
      have hst : takenB (row.take (k + 1)) ps place = (takenB (row.take k) ps place || (y == place)) := by
        unfold takenB
        rw [List.take_succ_eq_append_getElem (List.getElem?_eq_some_iff.1 hoo).1, (List.getElem?_eq_some_iff.1 hoo).2, List.any_append]
        simp only [List.any_cons, List.any_nil, Bool.or_false, Int.toNat_natCast]
        rw [List.getD_eq_getElem?_getD, hy]
        rfl
      have hin : y = place → takenB row ps place = true := fun e => taken_iff.2 ⟨(on : Int), List.mem_of_getElem? hoo, by rw [Int.toNat_natCast, List.getD_eq_getElem?_getD, hy]; exact e⟩
      have Hst := Lib.hid hst
      have Hin := Lib.hid hin
      clear hcc hcc2 hoo hy hst hin
      by_cases he : y = place
      · have hb : (y == place) = true := by simp [he]
        have HE := Lib.hid (Hin.out he)
        clear he
        go_wp2_with fail
        go_ret
        exact ⟨ret_bool HE.out.symm, rfl⟩
      · have hb : (y == place) = false := by simp [he]
        have HE : Hid (takenB (row.take (k + 1)) ps place = false) := Lib.hid (by rw [Hst.out, HF.out, hb]; rfl)
        clear he
        go_wp2_with fail
        go_roundg mk
        case measure => omega
        case rel => exact ⟨k + 1, by omega, by go_num, rfl, HE⟩
/-- All that a register asks for, as the reference lists it. -/
def asksL (f : FunU) (ps : List Int) (r : Int) : List Int := wishBs ps r f.blocks ++ wishT f r ++ (List.range 14).map fun (g : Nat) => (g : Int)
theorem getD_of {ps : List Int} {k : Nat} {y : Int} (h : ps[k]? = some y) : ps.getD k 0 = y := by rw [List.getD_eq_getElem?_getD, h]; rfl
theorem wishI_len (ps : List Int) (r : Int) (x : InsU) : (wishI ps r x).length ≤ 2 := by
  unfold wishI
  (repeat' split) <;> simp
theorem wishIs_len (ps : List Int) (r : Int) (xs : List InsU) : (wishIs ps r xs).length ≤ 2 * xs.length := by
  induction xs with
  | nil => simp [wishIs]
  | cons x xs ih =>
    have h := wishI_len ps r x
    unfold wishIs at ih ⊢
    rw [List.map_cons, List.flatten_cons, List.length_append, List.length_cons]
    omega
theorem wishBs_len (ps : List Int) (r : Int) (bs : List BlkU) : (wishBs ps r bs).length ≤ 2 * manyU bs := by
  induction bs with
  | nil => simp [wishBs]
  | cons b bs ih =>
    have h := wishIs_len ps r b.list
    unfold wishBs at ih ⊢
    unfold manyU at ih ⊢
    rw [List.map_cons, List.flatten_cons, List.length_append, List.map_cons, List.sum_cons]
    omega
theorem wishBs_take_len (ps : List Int) (r : Int) (bs : List BlkU) (j : Nat) : (wishBs ps r (bs.take j)).length ≤ 2 * manyU bs := by
  have h := wishBs_len ps r bs
  have e := wishBs_split (ps := ps) (r := r) (vs := bs) j
  have h2 : (wishBs ps r bs).length = (wishBs ps r (bs.take j)).length + (wishBs ps r (bs.drop j)).length := by rw [e, List.length_append]
  omega
theorem wishIs_take_len (ps : List Int) (r : Int) (xs : List InsU) (j : Nat) : (wishIs ps r (xs.take j)).length ≤ 2 * xs.length := by
  have h := wishIs_len ps r (xs.take j)
  have h2 := List.length_take_le' j xs
  omega
theorem many_in {bs : List BlkU} {j : Nat} {b : BlkU} (h : bs[j]? = some b) : b.list.length ≤ manyU bs := by
  have hm := List.mem_of_getElem? h
  clear h
  induction bs with
  | nil => simp at hm
  | cons a bs ih =>
    unfold manyU at ih ⊢
    rw [List.map_cons, List.sum_cons]
    rcases List.mem_cons.1 hm with rfl | hm
    · omega
    · have := ih hm
      omega
theorem own_if {w : World} {base : Nat} {v : Value} {xs ys : List Int} (h : OwnInts w base v xs) (e : xs = ys) : OwnInts w base v ys := e ▸ h
set_option maxRecDepth 100000 in
set_option maxHeartbeats 8000000 in
theorem Asks_any (f : FunU) (nr : Nat) (bA : Option Addr) (bc : Nat) (pv : Value) (ps : List Int) (many : Int) (r : Int) (w : World) (hb : BlksAt w w.heap.size (.slice bA f.blocks.length bc) f.blocks) (hp : IntsAt w w.heap.size pv ps) (hK : WishOk f.blocks ps) (hm : manyU f.blocks ≤ 300) :
    Calls Tryz.prog 23 #[.agg #[.string f.name, .int .i64 f.params, .int .i64 (nr : Int), .slice bA f.blocks.length bc], pv, .int .i64 many, .int .i64 r] w fun e w' => ∃ v, e = .returned v ∧ OwnInts w' w.heap.size v (asksL f ps r) ∧ Below w.heap.size w w' := by
  obtain ⟨P, d, rfl, _, _, hpc⟩ := hp
  have HPc := Lib.hid hpc
  have HBL := Lib.hid hb
  obtain ⟨_, _, e, hb1, hb2⟩ := SlAt.form hb
  cases e
  have HK := Lib.hid hK
  have HLen : Hid (∀ (j q : Nat) (b : BlkU), f.blocks[j]? = some b → (wishBs ps r (f.blocks.take j) ++ wishIs ps r (b.list.take q)).length ≤ 1200) := Lib.hid (fun j q b hj => by
    have h1 := wishBs_take_len ps r f.blocks j
    have h2 := wishIs_take_len ps r b.list q
    have h3 := many_in hj
    rw [List.length_append]
    omega)
  have HLenB : Hid ((wishBs ps r f.blocks).length ≤ 600) := Lib.hid (by have := wishBs_len ps r f.blocks; omega)
  obtain ⟨nb, hnb⟩ : ∃ nb, f.blocks.length = nb := ⟨_, rfl⟩
  obtain ⟨pl, hpl⟩ : ∃ pl, ps.length = pl := ⟨_, rfl⟩
  have Hnb := Lib.hid hnb
  have Hpl := Lib.hid hpl
  rw [hnb] at HBL hb1 ⊢
  rw [hpl] at HPc ⊢
  clear hpc hb hK hm hnb hpl
  have HF1 : Hid (Blk (w.alloc (.cells #[.string f.name, .int .i64 f.params, .int .i64 (nr : Int), .slice bA nb bc] 43)) w.heap.size 43 #[.string f.name, .int .i64 f.params, .int .i64 (nr : Int), .slice bA nb bc]) := Lib.hid (Blk.new _ _ _)
  have HB1 : Hid (Below w.heap.size w (w.alloc (.cells #[.string f.name, .int .i64 f.params, .int .i64 (nr : Int), .slice bA nb bc] 43))) := Lib.hid ((Below.refl _ _).alloc (Nat.le_refl _) _)
  go_enter Tryz.func23, Tryz.ntmps23
  go_upto_region 3 with fail
  generalize w.alloc (.cells #[.string f.name, .int .i64 f.params, .int .i64 (nr : Int), .slice bA nb bc] 43) = W1 at *
  obtain ⟨H1, hH1⟩ : ∃ H1, W1.heap.size = H1 := ⟨_, rfl⟩
  have HH1 := Lib.hid hH1
  have hfw : w.heap.size < H1 := by have := HF1.out.lt; omega
  clear hH1
  go_loopg [9, 10] nb (fun gk s i wr => ∃ (j : Nat) (ov : Value), ov = s ∧ j + gk = nb ∧ i = .int .i64 (j : Int) ∧ Hid (OwnInts wr H1 ov (wishBs ps r (f.blocks.take j))) ∧ Hid (Below H1 W1 wr))
  case atStart => exact ⟨0, _, rfl, by omega, rfl, Lib.hid (by rw [List.take_zero]; exact OwnInts.nil _ _), Lib.hid (Below.refl _ _)⟩
  case round =>
    obtain ⟨j, s, rfl, hj, rfl, HO, HB⟩ := hrel
    have HFj := Lib.hid (HF1.out.below HB.out hfw)
    have q1 := HFj.out.cell 1
    have q3 := HFj.out.cell 3
    have hzr : H1 ≤ wr.heap.size := by have := HB.out.size; have := HH1.out; omega
    rcases gk with _ | mk
    · have hjt : ¬ (j : Int) < (nb : Int) := by omega
      have HO' : Hid (OwnInts wr H1 s (wishBs ps r f.blocks)) := Lib.hid (by
        have := HO.out
        rwa [List.take_of_length_le (by have := Hnb.out; omega)] at this)
      clear HO
      go_upto_if 79 with fail
      go_cut [9] (fun s' wx => Hid (OwnInts wx H1 s' (wishBs ps r f.blocks ++ wishT f r)) ∧ Hid (Below H1 W1 wx))
      case first =>
        by_cases ht : r < f.params
        · have HT : Hid (wishT f r = [r]) := Lib.hid (by unfold wishT; rw [if_pos ht])
          have hl : (wishBs ps r f.blocks).length ≤ 1000 := by have := HLenB.out; omega
          go_wp2_with (at_builtin; refine app_one rfl _ _ 26 3 rfl (.int .i64 0) 1 8 Tryz.underlying26 infoInt rfl (by decide) (by decide) H1 _ _ _ (by rfl) HO'.out _ [.int .i64 r] (by rfl) rfl (fun x hx => by simp at hx; subst hx; rfl) rfl (by omega) hzr ?_; intro v5 w5 HA5)
          go_meet
          exact ⟨Lib.hid (by rw [HT.out]; exact own_snoc HA5.out), Lib.hid (HB.out.trans HA5.out.below)⟩
        · have HT : Hid (wishT f r = []) := Lib.hid (by unfold wishT; rw [if_neg ht])
          go_wp2_with fail
          go_meet
          exact ⟨Lib.hid (by rw [HT.out, List.append_nil]; exact HO'.out), HB⟩
      case rest =>
        obtain ⟨HO2, HB2⟩ := hcut
        clear HO' HB HFj q1 q3 hzr
        go_upto_region 17 with fail
        go_loopg [9, 13] 14 (fun gk s i wx => ∃ (g : Nat) (ov : Value), ov = s ∧ g + gk = 14 ∧ i = .int .i64 (g : Int) ∧ Hid (OwnInts wx H1 ov (wishBs ps r f.blocks ++ wishT f r ++ (List.range g).map fun (g : Nat) => (g : Int))) ∧ Hid (Below H1 W1 wx))
        case atStart => exact ⟨0, _, rfl, by omega, rfl, Lib.hid (by rw [List.range_zero, List.map_nil, List.append_nil]; exact HO2.out), HB2⟩
        case round =>
          obtain ⟨g, s, rfl, hg, rfl, HO3, HB3⟩ := hrel
          have hz3 : H1 ≤ wr.heap.size := by have := HB3.out.size; have := HH1.out; omega
          rcases gk with _ | nk
          · have hgt : ¬ (g : Int) < 14 := by omega
            obtain rfl : g = 14 := by omega
            have HE := Lib.hid (own_more HO3.out (Nat.le_of_lt hfw))
            have HBE := Lib.hid (HB1.out.trans (HB3.out.mono (Nat.le_of_lt hfw)))
            go_wp2_with fail
            go_ret
            exact ⟨_, rfl, HE.out, HBE.out⟩
          · have hgt : (g : Int) < 14 := by omega
            obtain ⟨L, hL⟩ : ∃ L, wishBs ps r f.blocks ++ wishT f r ++ ((List.range g).map fun (g : Nat) => (g : Int)) = L := ⟨_, rfl⟩
            have HE : Hid (L ++ [(g : Int)] = wishBs ps r f.blocks ++ wishT f r ++ ((List.range (g + 1)).map fun (g : Nat) => (g : Int))) := Lib.hid (by
              rw [← hL, List.range_succ, List.map_append, List.append_assoc _ _ [(g : Int)]]
              rfl)
            have hl : L.length ≤ 2000 := by
              have := HLenB.out
              rw [← hL]
              have h2 : (wishT f r).length ≤ 1 := by unfold wishT; split <;> simp
              simp only [List.length_append, List.length_map, List.length_range]
              omega
            rw [hL] at HO3
            clear hL
            go_wp2_with (at_builtin; refine app_one rfl _ _ 26 3 rfl (.int .i64 0) 1 8 Tryz.underlying26 infoInt rfl (by decide) (by decide) H1 _ _ _ (by rfl) HO3.out _ [.int .i64 (g : Int)] (by rfl) rfl (fun x hx => by simp at hx; subst hx; rfl) rfl (by omega) hz3 ?_; intro v5 w5 HA5)
            have HO5 : Hid (OwnInts w5 H1 v5 (wishBs ps r f.blocks ++ wishT f r ++ (List.range (g + 1)).map fun (g : Nat) => (g : Int))) := Lib.hid (own_if (own_snoc HA5.out) HE.out)
            have HB5 := Lib.hid (HB3.out.trans HA5.out.below)
            go_roundg nk
            case measure => omega
            case rel => exact ⟨g + 1, _, rfl, by omega, by go_num, HO5, HB5⟩
    · have hjt : (j : Int) < (nb : Int) := by omega
      have hj0 : (0 : Int) ≤ (j : Int) := Int.natCast_nonneg j
      have hjl : j < nb := by omega
      obtain ⟨bb, bo, b, pA, pc, lA, lc, tA, tc, rfl, hbb, hbj, p0, p1, p2, p3, p4, p5, _, hli, _⟩ := BlksAt.one HBL.out hjl
      have Hbj := Lib.hid hbj
      have HLI := Lib.hid hli
      obtain ⟨ll, hll⟩ : ∃ ll, b.list.length = ll := ⟨_, rfl⟩
      have Hll := Lib.hid hll
      rw [hll] at p1 HLI
      have hll63 : ll ≤ 9223372036854775807 := by
        obtain ⟨_, _, e, h1, h2⟩ := SlAt.form HLI.out
        cases e
        omega
      have HP1 := Lib.hid p1
      clear hbj hli hll p0 p1 p2 p3 p4 p5
      have HBw := Lib.hid (HB1.out.trans (HB.out.mono (Nat.le_of_lt hfw)))
      go_upto_region 6 with fail
      go_loopg [9, 11] ll (fun gk s i wi => ∃ (q : Nat) (ov : Value), ov = s ∧ q + gk = ll ∧ i = .int .i64 (q : Int) ∧ Hid (OwnInts wi H1 ov (wishBs ps r (f.blocks.take j) ++ wishIs ps r (b.list.take q))) ∧ Hid (Below H1 W1 wi))
      case atStart => exact ⟨0, _, rfl, by omega, rfl, Lib.hid (by rw [List.take_zero]; show OwnInts _ _ _ (_ ++ []); rw [List.append_nil]; exact HO.out), HB⟩
      case round =>
        obtain ⟨q, s, rfl, hq, rfl, HO3, HB3⟩ := hrel
        clear HO HB HFj q1 q3 hzr HBw
        have HF3 := Lib.hid (HF1.out.below HB3.out hfw)
        have q3 := HF3.out.cell 3
        have HBw3 := Lib.hid (HB1.out.trans (HB3.out.mono (Nat.le_of_lt hfw)))
        have hz3 : H1 ≤ wr.heap.size := by have := HB3.out.size; have := HH1.out; omega
        have p1 := (bcell HBw3.out hbb).trans HP1.out
        rcases gk with _ | nk
        · have hql : ¬ (q : Int) < (ll : Int) := by omega
          have HE : Hid (OwnInts wr H1 s (wishBs ps r (f.blocks.take (j + 1)))) := Lib.hid (by
            rw [wishBs_snoc Hbj.out]
            have := HO3.out
            rwa [List.take_of_length_le (l := b.list) (by have := Hll.out; omega)] at this)
          go_wp2_with fail
          go_roundg mk
          case measure => omega
          case rel => exact ⟨j + 1, _, rfl, by omega, by go_num, HE, HB3⟩
        · have hql : (q : Int) < (ll : Int) := by omega
          have hq0 : (0 : Int) ≤ (q : Int) := Int.natCast_nonneg q
          obtain ⟨xb, xo, x, aA, ac, rfl, hxb, hxq, c0, c1, c2, c3, c4, c5, c6, c7, _⟩ := InssAt.one HLI.out (by omega : q < ll)
          have c0 := (bcell HBw3.out hxb).trans c0
          have c1 := (bcell HBw3.out hxb).trans c1
          have c2 := (bcell HBw3.out hxb).trans c2
          have c3 := (bcell HBw3.out hxb).trans c3
          have c4 := (bcell HBw3.out hxb).trans c4
          have c5 := (bcell HBw3.out hxb).trans c5
          have c6 := (bcell HBw3.out hxb).trans c6
          have c7 := (bcell HBw3.out hxb).trans c7
          have Hw : Hid (wishBs ps r (f.blocks.take j) ++ wishIs ps r (b.list.take (q + 1)) = (wishBs ps r (f.blocks.take j) ++ wishIs ps r (b.list.take q)) ++ wishI ps r x) := Lib.hid (by rw [wishIs_snoc hxq, List.append_assoc])
          have HKx := Lib.hid (HK.out b (List.mem_of_getElem? Hbj.out) x (List.mem_of_getElem? hxq))
          obtain ⟨L, hL⟩ : ∃ L, wishBs ps r (f.blocks.take j) ++ wishIs ps r (b.list.take q) = L := ⟨_, rfl⟩
          have hl : L.length ≤ 1200 := by rw [← hL]; exact HLen.out j q b Hbj.out
          rw [hL] at HO3 Hw
          clear hL hxq
          obtain ⟨op, dst, ⟨ar, an⟩, ⟨br, bn⟩, fn, args⟩ := x
          simp only at c0 c1 c2 c3 c4 c5 c6 c7 HKx
          have HX4 : Hid (Blk (wr.alloc (.cells #[.int .i64 op, .int .i64 dst, .bool ar, .int .i64 an, .bool br, .int .i64 bn, .int .i64 fn, .slice aA args.length ac] 69)) wr.heap.size 69 #[.int .i64 op, .int .i64 dst, .bool ar, .int .i64 an, .bool br, .int .i64 bn, .int .i64 fn, .slice aA args.length ac]) := Lib.hid (Blk.new _ _ _)
          have HO4 : Hid (OwnInts (wr.alloc (.cells #[.int .i64 op, .int .i64 dst, .bool ar, .int .i64 an, .bool br, .int .i64 bn, .int .i64 fn, .slice aA args.length ac] 69)) H1 s L) := Lib.hid (HO3.out.alloc _)
          have HB4 : Hid (Below H1 W1 (wr.alloc (.cells #[.int .i64 op, .int .i64 dst, .bool ar, .int .i64 an, .bool br, .int .i64 bn, .int .i64 fn, .slice aA args.length ac] 69))) := Lib.hid (HB3.out.alloc hz3 _)
          have hxz : wr.heap.size < (wr.alloc (.cells #[.int .i64 op, .int .i64 dst, .bool ar, .int .i64 an, .bool br, .int .i64 bn, .int .i64 fn, .slice aA args.length ac] 69)).heap.size := HX4.out.lt
          go_upto_region 9 with fail
          clear c0 c1 c2 c3 c4 c5 c6 c7 p1 q3 HF3 HO3 HBw3
          generalize wr.alloc (.cells #[.int .i64 op, .int .i64 dst, .bool ar, .int .i64 an, .bool br, .int .i64 bn, .int .i64 fn, .slice aA args.length ac] 69) = W4 at *
          generalize wr.heap.size = xz at *
          have hz4 : H1 ≤ W4.heap.size := by omega
          have x0 := HX4.out.cell 0
          have x2 := HX4.out.cell 2
          by_cases hc : op = 1 ∧ ar = true
          · obtain ⟨rfl, rfl⟩ := hc
            have hkx := HKx.out rfl rfl
            obtain ⟨⟨hd0, hd1⟩, ha0, ha1⟩ := hkx
            obtain ⟨dn, rfl⟩ : ∃ dn : Nat, dst = (dn : Int) := ⟨dst.toNat, by omega⟩
            obtain ⟨en, rfl⟩ : ∃ en : Nat, an = (en : Int) := ⟨an.toNat, by omega⟩
            rw [Hpl.out] at hd1 ha1
            obtain ⟨v1, hv1⟩ : ∃ v, ps[dn]? = some v := ⟨_, List.getElem?_eq_getElem (by have := Hpl.out; omega)⟩
            obtain ⟨v2, hv2⟩ : ∃ v, ps[en]? = some v := ⟨_, List.getElem?_eq_getElem (by have := Hpl.out; omega)⟩
            obtain ⟨b2, off2, rfl, hb2w, hcc2⟩ := HPc.out (by have := Hpl.out; omega)
            have HC1 := Lib.hid (hcc2 dn v1 hv1)
            have HC2 := Lib.hid (hcc2 en v2 hv2)
            have Hw2 : Hid (wishBs ps r (f.blocks.take j) ++ wishIs ps r (b.list.take (q + 1)) = (L ++ (if (en : Int) = r then [v1] else [])) ++ (if (dn : Int) = r then [v2] else [])) := Lib.hid (by
              rw [Hw.out, List.append_assoc]
              unfold wishI
              rw [if_pos ⟨rfl, rfl⟩]
              simp only [Int.toNat_natCast]
              rw [getD_of hv1, getD_of hv2])
            clear Hw HKx hv1 hv2 hcc2
            have x1 := HX4.out.cell 1
            have x3 := HX4.out.cell 3
            have y1 := (bcell (HB1.out.trans (HB4.out.mono (Nat.le_of_lt hfw))) hb2w).trans HC1.out
            go_upto_if 54 with fail
            go_cut [9] (fun s' wx => ∃ (sv : Value) (W5 : World), sv = s' ∧ W5 = wx ∧ Hid (OwnInts wx H1 s' (L ++ (if (en : Int) = r then [v1] else []))) ∧ Hid (Blk wx xz 69 #[.int .i64 1, .int .i64 (dn : Int), .bool true, .int .i64 (en : Int), .bool br, .int .i64 bn, .int .i64 fn, .slice aA args.length ac]) ∧ Hid (Below H1 W1 wx))
            case first =>
              by_cases he : (en : Int) = r
              · have HE : Hid ((if (en : Int) = r then [v1] else []) = [v1]) := Lib.hid (if_pos he)
                have hbe : ((en : Int) == r) = true := by simp [he]
                clear he
                go_wp2_with (at_builtin; refine app_one rfl _ _ 26 3 rfl (.int .i64 0) 1 8 Tryz.underlying26 infoInt rfl (by decide) (by decide) H1 _ _ _ (by rfl) HO4.out _ [.int .i64 v1] (by rfl) rfl (fun x hx => by simp at hx; subst hx; rfl) rfl (by omega) hz4 ?_; intro v5 w5 HA5)
                go_meet
                exact ⟨_, _, rfl, rfl, Lib.hid (by rw [HE.out]; exact own_snoc HA5.out), Lib.hid (HA5.out.blk HO4.out HX4.out (by decide)), Lib.hid (HB4.out.trans HA5.out.below)⟩
              · have HE : Hid ((if (en : Int) = r then [v1] else []) = []) := Lib.hid (if_neg he)
                have hbe : ((en : Int) == r) = false := by simp [he]
                clear he
                go_wp2_with fail
                go_meet
                exact ⟨_, _, rfl, rfl, Lib.hid (by rw [HE.out, List.append_nil]; exact HO4.out), HX4, HB4⟩
            case rest =>
              obtain ⟨sv, W5, rfl, rfl, HO5, HX5, HB5⟩ := hcut
              clear x0 x1 x2 x3 y1 HX4 HO4 HB4
              obtain ⟨L2, hL2⟩ : ∃ L2, L ++ (if (en : Int) = r then [v1] else []) = L2 := ⟨_, rfl⟩
              have hl2 : L2.length ≤ 1201 := by
                rw [← hL2, List.length_append]
                split <;> simp <;> omega
              rw [hL2] at HO5 Hw2
              clear hL2
              have x1 := HX5.out.cell 1
              have x3 := HX5.out.cell 3
              have hz5 : H1 ≤ W5.heap.size := by have := HB5.out.size; have := HH1.out; omega
              have y2 := (bcell (HB1.out.trans (HB5.out.mono (Nat.le_of_lt hfw))) hb2w).trans HC2.out
              by_cases he : (dn : Int) = r
              · have HE : Hid (L2 ++ [v2] = wishBs ps r (f.blocks.take j) ++ wishIs ps r (b.list.take (q + 1))) := Lib.hid (by rw [Hw2.out, if_pos he])
                have hbe : ((dn : Int) == r) = true := by simp [he]
                clear he
                go_wp2_with (at_builtin; refine app_one rfl _ _ 26 3 rfl (.int .i64 0) 1 8 Tryz.underlying26 infoInt rfl (by decide) (by decide) H1 _ _ _ (by rfl) HO5.out _ [.int .i64 v2] (by rfl) rfl (fun x hx => by simp at hx; subst hx; rfl) rfl (by omega) hz5 ?_; intro v5 w5 HA5)
                have HO6 : Hid (OwnInts w5 H1 v5 (wishBs ps r (f.blocks.take j) ++ wishIs ps r (b.list.take (q + 1)))) := Lib.hid (own_if (own_snoc HA5.out) HE.out)
                have HB6 := Lib.hid (HB5.out.trans HA5.out.below)
                go_roundg nk
                case measure => omega
                case rel => exact ⟨q + 1, _, rfl, by omega, by go_num, HO6, HB6⟩
              · have HE : Hid (L2 = wishBs ps r (f.blocks.take j) ++ wishIs ps r (b.list.take (q + 1))) := Lib.hid (by rw [Hw2.out, if_neg he, List.append_nil])
                have hbe : ((dn : Int) == r) = false := by simp [he]
                have HO6 : Hid (OwnInts W5 H1 sv (wishBs ps r (f.blocks.take j) ++ wishIs ps r (b.list.take (q + 1)))) := Lib.hid (own_if HO5.out HE.out)
                clear he
                go_wp2_with fail
                go_roundg nk
                case measure => omega
                case rel => exact ⟨q + 1, _, rfl, by omega, by go_num, HO6, HB5⟩
          · have HE : Hid (OwnInts W4 H1 s (wishBs ps r (f.blocks.take j) ++ wishIs ps r (b.list.take (q + 1)))) := Lib.hid (by
              rw [Hw.out]
              unfold wishI
              rw [if_neg hc, List.append_nil]
              exact HO4.out)
            by_cases h1 : op = 1
            · obtain rfl : ar = false := by
                cases ar with
                | false => rfl
                | true => exact absurd ⟨h1, rfl⟩ hc
              subst h1
              clear hc
              go_wp2_with fail
              go_roundg nk
              case measure => omega
              case rel => exact ⟨q + 1, _, rfl, by omega, by go_num, HE, HB4⟩
            · have hbe : (op == 1) = false := by simp [h1]
              clear hc
              go_wp2_with fail
              go_roundg nk
              case measure => omega
              case rel => exact ⟨q + 1, _, rfl, by omega, by go_num, HE, HB4⟩
end Go.Proofs.YtiknhfbkphoceaaGreatDoor
namespace Go.Proofs.YtiknhfbkphoceaaGreatDoor
open Go.RowKit

theorem pw_seg {R : Int → Int → Prop} {l : List Int} (h : l.Pairwise R) : Seg R l 0 l.length := by
  intro i j x y _ hij hj hx hy
  have hxl := List.getElem?_eq_some_iff.1 hx
  have hyl := List.getElem?_eq_some_iff.1 hy
  have := List.pairwise_iff_getElem.1 h i j hxl.1 hyl.1 hij
  rwa [hxl.2, hyl.2] at this
theorem seg_pw {R : Int → Int → Prop} {l : List Int} (h : Seg R l 0 l.length) : l.Pairwise R := by
  rw [List.pairwise_iff_getElem]
  intro i j hi hj hij
  exact h i j _ _ (Nat.zero_le _) hij hj (List.getElem?_eq_getElem hi) (List.getElem?_eq_getElem hj)
theorem order_once {wt : Int → Int} {P l1 l2 : List Int} (h1 : l1.Perm P) (s1 : Seg (ltW wt) l1 0 l1.length) (h2 : l2.Perm P) (s2 : Seg (ltW wt) l2 0 l2.length) : l1 = l2 := by
  refine List.Perm.eq_of_pairwise ?_ (seg_pw s1) (seg_pw s2) (h1.trans h2.symm)
  intro a b _ _ hab hba
  unfold ltW at hab hba
  omega
theorem coloured_once {f : FunU} {rows : List (List Int)} {acr giv ws bg p1 p2 : List Int} {n : Nat} (h1 : Coloured f rows acr giv ws bg n p1) (h2 : Coloured f rows acr giv ws bg n p2) : p1 = p2 := by
  obtain ⟨o1, ⟨a1, b1⟩, rfl⟩ := h1
  obtain ⟨o2, ⟨a2, b2⟩, rfl⟩ := h2
  rw [order_once a1 b1 a2 b2]
theorem given_filter {m : Nat} (h1 : 2 ≤ m) (h2 : m ≤ 14) : ((List.range 14).map fun (g : Nat) => (g : Int)).filter (hasN (givenS m)) = givenS m := by
  obtain rfl | rfl | rfl | rfl | rfl | rfl | rfl | rfl | rfl | rfl | rfl | rfl | rfl : m = 2 ∨ m = 3 ∨ m = 4 ∨ m = 5 ∨ m = 6 ∨ m = 7 ∨ m = 8 ∨ m = 9 ∨ m = 10 ∨ m = 11 ∨ m = 12 ∨ m = 13 ∨ m = 14 := by omega
  all_goals decide
theorem find_asks {f : FunU} {row acr ps : List Int} {r : Int} {m : Nat} (h1 : 2 ≤ m) (h2 : m ≤ 14) : (asksL f ps r).find? (freeB row acr (givenS m) ps r) = (wishesL f (givenS m) ps r).find? (freeB row acr (givenS m) ps r) := by
  unfold asksL wishesL
  simp only [List.find?_append]
  congr 1
  have e : (givenS m).find? (freeB row acr (givenS m) ps r) = (((List.range 14).map fun (g : Nat) => (g : Int)).filter (hasN (givenS m))).find? (freeB row acr (givenS m) ps r) := by rw [given_filter h1 h2]
  rw [e, List.find?_filter]
  congr 1
  funext x
  unfold freeB
  cases hasN (givenS m) x <;> simp
theorem paint_asks {f : FunU} {row acr ps : List Int} {r : Int} {m : Nat} (h1 : 2 ≤ m) (h2 : m ≤ 14) : paintS row acr (givenS m) ps r (asksL f ps r) = paintS row acr (givenS m) ps r (wishesL f (givenS m) ps r) := by
  unfold paintS
  rw [find_asks h1 h2]
/-- The best of the first so many. -/
def BestAt (wt : Int → Int) (lf : List Int) (i b : Nat) : Prop := b < i ∧ ∀ (j : Nat) (x y : Int), j < i → lf[j]? = some x → lf[b]? = some y → wt x ≤ wt y ∧ (j < b → wt x < wt y)
theorem BestAt.one (wt : Int → Int) (lf : List Int) : BestAt wt lf 1 0 := ⟨by omega, fun j x y hj hx hy => by
  obtain rfl : j = 0 := by omega
  rw [hx] at hy
  cases hy
  exact ⟨Int.le_refl _, fun h => absurd h (Nat.lt_irrefl _)⟩⟩
theorem BestAt.keep {wt : Int → Int} {lf : List Int} {i b : Nat} {x y : Int} (h : BestAt wt lf i b) (hx : lf[i]? = some x) (hy : lf[b]? = some y) (hle : ¬ wt y < wt x) : BestAt wt lf (i + 1) b := by
  refine ⟨by have := h.1; omega, fun j a c hj ha hc => ?_⟩
  rcases Nat.lt_or_ge j i with hji | hji
  · exact h.2 j a c hji ha hc
  · obtain rfl : j = i := by omega
    rw [hx] at ha
    rw [hy] at hc
    cases ha
    cases hc
    have := h.1
    exact ⟨by omega, fun h' => by omega⟩
theorem BestAt.take {wt : Int → Int} {lf : List Int} {i b : Nat} {x y : Int} (h : BestAt wt lf i b) (hx : lf[i]? = some x) (hy : lf[b]? = some y) (hlt : wt y < wt x) : BestAt wt lf (i + 1) i := by
  refine ⟨by omega, fun j a c hj ha hc => ?_⟩
  rw [hx] at hc
  cases hc
  rcases Nat.lt_or_ge j i with hji | hji
  · have := (h.2 j a y hji ha hy).1
    exact ⟨by omega, fun _ => by omega⟩
  · obtain rfl : j = i := by omega
    rw [hx] at ha
    cases ha
    exact ⟨by omega, fun h' => absurd h' (Nat.lt_irrefl _)⟩
/-- What has been drawn, and what is left. -/
structure Sel (wt : Int → Int) (P dn lf : List Int) : Prop where
  perm : (dn ++ lf).Perm P
  srt : dn.Pairwise (ltW wt)
  cross : ∀ x ∈ dn, ∀ y ∈ lf, ltW wt x y
  asc : lf.Pairwise (· < ·)
theorem Sel.start {wt : Int → Int} {P : List Int} (h : P.Pairwise (· < ·)) : Sel wt P [] P := ⟨.refl _, .nil, by simp, h⟩
theorem Sel.done {wt : Int → Int} {P dn : List Int} (h : Sel wt P dn []) : dn.Perm P ∧ Seg (ltW wt) dn 0 dn.length := ⟨by have := h.perm; rwa [List.append_nil] at this, pw_seg h.srt⟩
theorem Sel.step {wt : Int → Int} {P dn lf : List Int} {b : Nat} {r : Int} (h : Sel wt P dn lf) (hb : lf[b]? = some r) (hB : BestAt wt lf lf.length b) : Sel wt P (dn ++ [r]) (lf.eraseIdx b) := by
  have hbl := (List.getElem?_eq_some_iff.1 hb).1
  have hbe := (List.getElem?_eq_some_iff.1 hb).2
  refine ⟨?_, ?_, ?_, h.asc.sublist (List.eraseIdx_sublist _ _)⟩
  · rw [List.append_assoc]
    refine (List.Perm.append_left dn ?_).trans h.perm
    have e1 : lf = lf.take b ++ r :: lf.drop (b + 1) := by
      have := List.take_append_drop b lf
      rw [List.drop_eq_getElem_cons hbl, hbe] at this
      exact this.symm
    rw [List.eraseIdx_eq_take_drop_succ]
    have p : (lf.take b ++ r :: lf.drop (b + 1)).Perm (r :: (lf.take b ++ lf.drop (b + 1))) := List.perm_middle
    rw [← e1] at p
    exact p.symm
  · rw [List.pairwise_append]
    refine ⟨h.srt, List.pairwise_singleton _ _, ?_⟩
    intro x hx y hy
    rw [List.mem_singleton] at hy
    subst hy
    exact h.cross x hx y (List.mem_of_getElem? hb)
  · intro x hx y hy
    rcases List.mem_append.1 hx with hx | hx
    · exact h.cross x hx y (List.mem_of_mem_eraseIdx hy)
    · rw [List.mem_singleton] at hx
      subst hx
      obtain ⟨j, hj⟩ := List.mem_iff_getElem?.1 hy
      rw [List.getElem?_eraseIdx] at hj
      unfold ltW
      split at hj
      · rename_i hlt
        have hjl := (List.getElem?_eq_some_iff.1 hj).1
        have := hB.2 j y x hjl hj hb
        exact .inl (this.2 hlt)
      · rename_i hge
        have hjl := (List.getElem?_eq_some_iff.1 hj).1
        have h1 := (hB.2 (j + 1) y x hjl hj hb).1
        have h2 := List.pairwise_iff_getElem.1 h.asc b (j + 1) hbl hjl (by omega)
        rw [hbe, (List.getElem?_eq_some_iff.1 hj).2] at h2
        omega
theorem Sel.mem {wt : Int → Int} {P dn lf : List Int} (h : Sel wt P dn lf) {x : Int} (hx : x ∈ lf) : x ∈ P := h.perm.mem_iff.1 (List.mem_append_right _ hx)
theorem SortNow.put {W0 W : World} {base g c n : Nat} {xs : List Int} (h : SortNow W0 W base g c n xs) (i : Nat) (b : Int) : SortNow W0 (W.setCell ⟨g, i, none⟩ (.int .i64 b)) base g c n (xs.set i b) := by
  refine ⟨?_, h.but.trans (BelowBut.set g _ _ i _), by rw [List.length_set, h.len]⟩
  have h1 := (h.row.stored i (.int .i64 b)).1
  unfold OwnInts
  rw [List.length_set, h.len, List.map_set]
  exact h1
theorem SortNow.below {W0 W W' : World} {base g c n : Nat} {xs : List Int} (h : SortNow W0 W base g c n xs) (hb : Below W.heap.size W W') : SortNow W0 W' base g c n xs :=
  ⟨h.own.below hb rfl, h.but.trans (but_of (hb.mono h.but.size)), h.len⟩
/-- Two rows of the call's own that lie apart. -/
structure Two (w : World) (B : Nat) (pv lv : Value) (xs ys : List Int) : Prop where
  fst : OwnInts w B pv xs
  snd : OwnInts w B lv ys
  far : ∀ k, lv.ownBlock = some k → pv.ownBlock ≠ some k
theorem Two.nil (w : World) (B : Nat) : Two w B (.slice none 0 0) (.slice none 0 0) [] [] := ⟨OwnInts.nil _ _, OwnInts.nil _ _, fun k h => by cases h⟩
theorem Two.below {w w' : World} {B : Nat} {pv lv : Value} {xs ys : List Int} (h : Two w B pv lv xs ys) (hb : Below w.heap.size w w') : Two w' B pv lv xs ys := ⟨h.fst.below hb rfl, h.snd.below hb rfl, h.far⟩
theorem Two.app1 {w w' : World} {B : Nat} {pv lv v' : Value} {xs ys : List Int} {x : Int} (h : Two w B pv lv xs ys) (ha : Appended w B 3 1 pv (xs.length + 1) (xs.map (Value.int .i64) ++ [.int .i64 x]) (w.heap.size + 1) v' w') : Two w' B v' lv (xs ++ [x]) ys := by
  refine ⟨own_snoc ha, ha.row h.snd h.far, fun k hk he => ?_⟩
  have hlt := own_block_lt h.snd hk
  rcases ha.2.2.2 with e | e
  · exact h.far k hk (by rw [← e]; exact he)
  · rw [e] at he
    cases he
    omega
theorem Two.app2 {w w' : World} {B : Nat} {pv lv v' : Value} {xs ys : List Int} {x : Int} (h : Two w B pv lv xs ys) (ha : Appended w B 3 1 lv (ys.length + 1) (ys.map (Value.int .i64) ++ [.int .i64 x]) (w.heap.size + 1) v' w') : Two w' B pv v' xs (ys ++ [x]) := by
  refine ⟨ha.row h.fst (fun k hk he => h.far k he hk), own_snoc ha, fun k hk he => ?_⟩
  have hlt := own_block_lt h.fst he
  rcases ha.2.2.2 with e | e
  · exact h.far k (by rw [← e]; exact hk) he
  · rw [e] at hk
    cases hk
    omega
theorem own_some {w : World} {B : Nat} {v : Value} {xs : List Int} (h : OwnInts w B v xs) (hl : 0 < xs.length) : ∃ g c, v = .slice (some ⟨g, 0, none⟩) xs.length c ∧ B ≤ g ∧ g < w.heap.size ∧ xs.length ≤ c ∧ c ≤ 9223372036854775807 ∧ ∀ (j : Nat) (x : Int), xs[j]? = some x → w.cell? ⟨g, j, none⟩ = some (.int .i64 x) := by
  have h' := h
  rcases h'.2 with ⟨_, hn⟩ | ⟨g, cap, cur, rfl, hb, hh, hnc, hcm, _⟩
  · omega
  · exact ⟨g, cap, rfl, hb, (Array.getElem?_eq_some_iff.1 hh).1, hnc, by unfold maxLen at hcm; omega, fun j x hx => row_cell h (by rw [List.getElem?_map, hx]; rfl)⟩
theorem wishI_bound {ps : List Int} {r : Int} {x : InsU} (hps : ∀ y ∈ ps, -1 ≤ y ∧ y ≤ 1000) : ∀ y ∈ wishI ps r x, -1 ≤ y ∧ y ≤ 1000 := by
  have hg : ∀ k : Nat, -1 ≤ ps.getD k 0 ∧ ps.getD k 0 ≤ 1000 := fun k => by
    rw [List.getD_eq_getElem?_getD]
    cases h : ps[k]? with
    | none => exact ⟨by decide, by decide⟩
    | some y => exact hps y (List.mem_of_getElem? h)
  intro y hy
  unfold wishI at hy
  split at hy
  · rcases List.mem_append.1 hy with h | h
    · split at h
      · rw [List.mem_singleton] at h
        rw [h]
        exact hg _
      · simp at h
    · split at h
      · rw [List.mem_singleton] at h
        rw [h]
        exact hg _
      · simp at h
  · simp at hy
theorem asks_bound {f : FunU} {ps : List Int} {r : Int} (hps : ∀ y ∈ ps, -1 ≤ y ∧ y ≤ 1000) (h0 : 0 ≤ r) (h1 : r ≤ 100) : ∀ y ∈ asksL f ps r, -1 ≤ y ∧ y ≤ 1000 := by
  intro y hy
  unfold asksL at hy
  rcases List.mem_append.1 hy with hy | hy
  · rcases List.mem_append.1 hy with hy | hy
    · unfold wishBs at hy
      obtain ⟨l, hl, hy⟩ := List.mem_flatten.1 hy
      obtain ⟨b, _, rfl⟩ := List.mem_map.1 hl
      unfold wishIs at hy
      obtain ⟨l2, hl2, hy⟩ := List.mem_flatten.1 hy
      obtain ⟨x, _, rfl⟩ := List.mem_map.1 hl2
      exact wishI_bound hps y hy
    · unfold wishT at hy
      split at hy
      · rw [List.mem_singleton] at hy
        omega
      · simp at hy
  · obtain ⟨g, hg, rfl⟩ := List.mem_map.1 hy
    have := List.mem_range.1 hg
    omega
theorem paint_bound {row acr giv ps ws : List Int} {r p : Int} (hw : ∀ g ∈ giv, g ∈ ws) (hg : ∀ g ∈ giv, 0 ≤ g ∧ g < 16) (hl : row.length ≤ 100) (hp : paintS row acr giv ps r ws = p) : 0 ≤ p ∧ p ≤ 1000 := by
  obtain ⟨h0, _, h | ⟨h1, _, h2⟩⟩ := paint_says hw hg hp
  · have := hg p h.1
    omega
  · obtain ⟨k, rfl⟩ : ∃ k : Nat, p = 16 + (k : Int) := ⟨(p - 16).toNat, by omega⟩
    have := taken_few (row := row) (ps := ps) (k := k) (fun j hj => h2 _ (by omega) (by omega))
    omega
theorem bound_set {ps : List Int} {k : Nat} {p : Int} (h : ∀ y ∈ ps, -1 ≤ y ∧ y ≤ 1000) (hp : -1 ≤ p ∧ p ≤ 1000) : ∀ y ∈ ps.set k p, -1 ≤ y ∧ y ≤ 1000 := by
  intro y hy
  rcases List.mem_or_eq_of_mem_set hy with h1 | h1
  · exact h y h1
  · rw [h1]
    exact hp
theorem run_app_ints {w : World} (ty : TypeId) (base : Nat) (v : Value) (xs : List Int) (hown : OwnInts w base v xs) (A : Option Addr) (m c : Nat) (ys : List Int) (hl : ys.length = m)
    (hy : 0 < m → ∃ g off, A = some ⟨g, off, none⟩ ∧ ∀ (j : Nat) (y : Int), ys[j]? = some y → w.cell? ⟨g, off + j, none⟩ = some (.int .i64 y)) (hlen : xs.length + m ≤ 4000000000) (hbase : base ≤ w.heap.size) :
    ∃ v' w', (Builtin.append_ #[26, 26] ty #[v, .slice A m c]).run Tryz.prog w = .ok v' w' ∧ OwnInts w' base v' (xs ++ ys) ∧ Below base w w' := by
  obtain ⟨i, hi, hz, hsize, hbytes⟩ := info_parts infoInt
  rcases A with _ | ad
  · have hm : m = 0 := by
      rcases Nat.eq_zero_or_pos m with h0 | h0
      · exact h0
      · obtain ⟨g, off, h, _⟩ := hy h0
        cases h
    subst hm
    obtain rfl : ys = [] := List.eq_nil_of_length_eq_zero hl
    exact ⟨v, w, run_app_nil w base 26 ty 3 i 1 Tryz.underlying26 hi v _ _ hown c, by rwa [List.append_nil], Below.refl _ _⟩
  · have hmul : (xs.length + m) * 8 ≤ 140737488355328 := by omega
    obtain ⟨v', w', hrun, h2, h3, _, h5⟩ := run_append_own_at (P := Tryz.prog) w base 26 ty 3 i (.int .i64 0) 1 8 Tryz.underlying26 hi hz hsize hbytes rfl (by decide) v _ _ hown ad m c (ys.map (Value.int .i64)) (by rw [List.length_map]; omega) (fun j u hu => by
      rw [List.getElem?_map, Option.map_eq_some_iff] at hu
      obtain ⟨y, hj, rfl⟩ := hu
      obtain ⟨g, off, e, hc⟩ := hy (by have := (List.getElem?_eq_some_iff.1 hj).1; omega)
      cases e
      rw [← hc j y hj]
      unfold Addr.add
      by_cases hj0 : j = 0
      · subst hj0
        rw [if_pos rfl, Nat.add_zero]
      · rw [if_neg hj0]) (fun u hu => by obtain ⟨y, _, rfl⟩ := List.mem_map.1 hu; rfl) (by unfold maxLen; omega) hmul hbase
    refine ⟨v', w', hrun, ?_, grown_below h3 hbase (own_block_ge hown)⟩
    unfold OwnInts
    rw [List.length_append, List.map_append, hl]
    exact h2
theorem upon_append {C : Value → World → Prop} {w : World} {o : Oper} {a : Act} (s x : Operand) (ho : o.op = .call { callee := .builtin .append, args := #[s, x], argTypes := #[26, 26] }) (base : Nat) (v : Value) (xs : List Int) (hs : a.eval s = v) (hown : OwnInts w base v xs)
    (A : Option Addr) (m c : Nat) (ys : List Int) (hx : a.eval x = .slice A m c) (hl : ys.length = m) (hy : 0 < m → ∃ g off, A = some ⟨g, off, none⟩ ∧ ∀ (j : Nat) (y : Int), ys[j]? = some y → w.cell? ⟨g, off + j, none⟩ = some (.int .i64 y)) (hlen : xs.length + m ≤ 4000000000) (hbase : base ≤ w.heap.size)
    (h : ∀ v' w', OwnInts w' base v' (xs ++ ys) → Below base w w' → C v' w') : uponR Tryz.prog C ((execOp a.eval o).run Tryz.prog w) := by
  obtain ⟨v', w', hrun, h1, h2⟩ := run_app_ints o.type base v xs hown A m c ys hl hy hlen hbase
  unfold execOp
  simp only [ho, resolve, invoke, builtin, Sem.run_bind, Sem.run_pure, Result.andThen_ok, List.map_toArray, List.map_cons, List.map_nil, hs, hx, hrun]
  exact h v' w' h1 h2
/-- The region that takes a register out of the list: what its operations yield. -/
def DelRun (pv : Nat → Option Value) (w0 : World) (xs ys : List Int) (σ : Nat → Option Value) (w : World) : Prop :=
  KnownRun pv w0 σ w ∧ (∀ u, σ 3 = some u → σ 8 = none → OwnInts w w0.heap.size u xs) ∧ (∀ u, σ 8 = some u → OwnInts w w0.heap.size u ys) ∧ (∀ u, σ 9 = some u → σ 8 = some u)
section
variable {pv : Nat → Option Value} {w0 : World} {xs ys : List Int} {σ : Nat → Option Value} {w w' : World}
theorem DelRun.start (h : Below w0.heap.size w0 w) : DelRun pv w0 xs ys (fun _ => none) w := ⟨KnownRun.start h, by simp, by simp, by simp⟩
theorem DelRun.low (h : DelRun pv w0 xs ys σ w) : Below w0.heap.size w0 w := h.1.1
theorem DelRun.val (h : DelRun pv w0 xs ys σ w) {k : Nat} {u v : Value} (hu : σ k = some u) (hp : pv k = some v) : u = v := h.1.val hu hp
theorem DelRun.say (h : DelRun pv w0 xs ys σ w) {k : Nat} {v : Value} (hk : pv k = some v) (hn : k ≠ 3 ∧ k ≠ 8 ∧ k ≠ 9) : DelRun pv w0 xs ys (upd σ k v) w := by
  refine ⟨h.1.say hk (Below.refl _ _), ?_, ?_, ?_⟩
  · rw [upd_ne hn.1.symm, upd_ne hn.2.1.symm]; exact h.2.1
  · rw [upd_ne hn.2.1.symm]; exact h.2.2.1
  · rw [upd_ne hn.2.2.symm, upd_ne hn.2.1.symm]; exact h.2.2.2
theorem DelRun.cut1 (h : DelRun pv w0 xs ys σ w) (hp : pv 3 = none) (h8 : σ 8 = none) (hb : Below w0.heap.size w w') {u : Value} (hu : OwnInts w' w0.heap.size u xs) : DelRun pv w0 xs ys (upd σ 3 u) w' := by
  refine ⟨⟨h.1.1.trans hb, fun j v' hj x hx => ?_⟩, ?_, ?_, ?_⟩
  · rw [upd_ne fun e => by rw [e, hp] at hj; cases hj] at hx
    exact h.1.2 j v' hj x hx
  · rw [upd_same]; intro x hx _; cases hx; exact hu
  · rw [upd_ne (by decide), h8]; intro x hx; cases hx
  · rw [upd_ne (by decide), upd_ne (by decide)]; exact h.2.2.2
theorem DelRun.cut2 (h : DelRun pv w0 xs ys σ w) (hp : pv 8 = none) (h9 : σ 9 = none) (hb : Below w0.heap.size w w') {u : Value} (hu : OwnInts w' w0.heap.size u ys) : DelRun pv w0 xs ys (upd σ 8 u) w' := by
  refine ⟨⟨h.1.1.trans hb, fun j v' hj x hx => ?_⟩, ?_, ?_, ?_⟩
  · rw [upd_ne fun e => by rw [e, hp] at hj; cases hj] at hx
    exact h.1.2 j v' hj x hx
  · rw [upd_same]; intro x _ hx; cases hx
  · rw [upd_same]; intro x hx; cases hx; exact hu
  · rw [upd_ne (by decide), h9]; intro x hx; cases hx
theorem DelRun.out (h : DelRun pv w0 xs ys σ w) (hp : pv 9 = none) {u : Value} (hu : σ 8 = some u) : DelRun pv w0 xs ys (upd σ 9 u) w := by
  refine ⟨h.1.free hp _ (Below.refl _ _), ?_, ?_, ?_⟩
  · rw [upd_ne (by decide), upd_ne (by decide)]; exact h.2.1
  · rw [upd_ne (by decide)]; exact h.2.2.1
  · rw [upd_same, upd_ne (by decide)]; intro x hx; cases hx; exact hu
end
theorem asks_pos (f : FunU) (ps : List Int) (r : Int) : 0 < (asksL f ps r).length := by
  unfold asksL
  rw [List.length_append, List.length_map, List.length_range]
  omega
theorem find_first {l : List Int} {p : Int → Bool} {k : Nat} {y : Int} (hy : l[k]? = some y) (hp : p y = true) (h : ∀ (i : Nat) (z : Int), i < k → l[i]? = some z → p z = false) : l.find? p = some y := by
  rw [List.find?_eq_some_iff_getElem]
  obtain ⟨hk, he⟩ := List.getElem?_eq_some_iff.1 hy
  refine ⟨hp, k, hk, he, fun i hi => ?_⟩
  rw [h i _ hi (List.getElem?_eq_getElem (by omega))]
  rfl
theorem find_no {l : List Int} {p : Int → Bool} (h : ∀ (i : Nat) (z : Int), i < l.length → l[i]? = some z → p z = false) : l.find? p = none := by
  rw [List.find?_eq_none]
  intro z hz
  obtain ⟨i, hi⟩ := List.mem_iff_getElem?.1 hz
  rw [h i z (List.getElem?_eq_some_iff.1 hi).1 hi]
  simp
theorem set_same {ps : List Int} {k : Nat} {x : Int} (h : ps[k]? = some x) : ps.set k x = ps := by
  apply List.ext_getElem?
  intro i
  rw [List.getElem?_set]
  by_cases e : k = i
  · subst e
    rw [if_pos rfl, if_pos (List.getElem?_eq_some_iff.1 h).1, h]
  · rw [if_neg e]
theorem sel_ne {wt : Int → Int} {r y : Int} (h : ltW wt r y) : y ≠ r := fun e => by
  subst e
  unfold ltW at h
  omega
end Go.Proofs.YtiknhfbkphoceaaGreatDoor
