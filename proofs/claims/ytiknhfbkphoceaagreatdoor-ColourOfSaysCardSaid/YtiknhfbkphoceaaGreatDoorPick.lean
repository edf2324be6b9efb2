/-
  A region that draws its order, in which two operations call what may answer this or that; what else it holds only reads.
  Conditions: as the theorem says; the region's edges order each operation behind those whose slots it reads ('lexOk', by the kernel).
-/
import Derived.Test.YtiknhfbkphoceaaGreatDoorLex
import Derived.RangeFuncSeq
import Derived.OrdersIn
namespace Go.Proofs.YtiknhfbkphoceaaGreatDoor
open Go

section
variable {P : Program} {n : Nat}

/-- What a call comes to, within no fence. -/
def pickUpon (P : Program) (n : Nat) (next : Value → World → Prop) : Result Next → Prop
  | .ok (.value u) w' => next u w'
  | .ok .skip w' => next undef w'
  | .ok (.round l f tmps assign body) w' => RoundIn Fence.wide (n - 1) P l f tmps assign body w' fun e w'' => ∃ v, e = .returned v ∧ next v w''
  | _ => False
theorem pickUpon_in {next : Value → World → Prop} {o : Oper} {a : Act} {K : Act → World → Prop} {Q : Exit → Act → World → Prop} {r : Result Next} (h : pickUpon P n next r) (hK : ∀ v w', next v w' → K (a.put o.dst v) w') : o.uponIn Fence.wide n P a K Q r := by
  cases r with
  | halt x w' => exact h.elim
  | ok x w' =>
    cases x <;> simp only [pickUpon] at h <;> simp only [Oper.uponIn]
    case value u => exact hK _ _ h
    case skip => exact hK _ _ h
    case round l f tmps assign body =>
      refine ⟨(fun h' => nomatch h'), h.mono ?_⟩
      rintro e w3 ⟨v, rfl, hn⟩
      exact hK _ _ hn
/-- An operation that only reads: one value, whatever came before it. -/
def Ord (P : Program) (ops : Array Oper) (Stage : World → Prop) (o : Oper) (a : Act) (v : Value) : Prop :=
  (Region.wanted o (yielded ops a.tmps) = true ∧ ∀ w, Stage w → (execOp a.eval o).run P w = .ok (.value v) w) ∨ (Region.wanted o (yielded ops a.tmps) = false ∧ v = undef)
/-- An operation that calls. -/
def Ask (P : Program) (n : Nat) (ops : Array Oper) (o : Oper) (a : Act) (next : Value → World → Prop) (w : World) : Prop :=
  (Region.wanted o (yielded ops a.tmps) = true ∧ pickUpon P n next ((execOp a.eval o).run P w)) ∨ (Region.wanted o (yielded ops a.tmps) = false ∧ next undef w)
/-- What is asked of operation number k, where the calls c1 and c2 answer b1 and b2. -/
def AtP (P : Program) (n : Nat) (ops : Array Oper) (A0 : World → Prop) (A1 : Bool → World → Prop) (A2 : Bool → Bool → World → Prop) (val1 : Bool → Value) (val2 : Bool → Bool → Value) (c1 c2 : Nat) (b1 b2 : Bool) (k : Nat) (o : Oper) (a : Act) (v : Value) : Prop :=
  if k = c1 then v = val1 b1 ∧ ∀ w, A0 w → Ask P n ops o a (fun v w' => ∃ b, v = val1 b ∧ A1 b w') w
  else if k = c2 then v = val2 b1 b2 ∧ ∀ w, A1 b1 w → Ask P n ops o a (fun v w' => ∃ b, v = val2 b1 b ∧ A2 b1 b w') w
  else Ord P ops (if k < c1 then A0 else if k < c2 then A1 b1 else A2 b1 b2) o a v
/-- The walk, in the order of the text. -/
def wpWalk (At : Nat → Oper → Act → Value → Prop) (Q : Act → Prop) : List Oper → Nat → Act → Prop
  | [], _, a => Q a
  | o :: rest, k, a => ∃ v, At k o a v ∧ wpWalk At Q rest (k + 1) (a.put o.dst v)
theorem walk_nil {At : Nat → Oper → Act → Value → Prop} {Q : Act → Prop} {k : Nat} {a : Act} (h : Q a) : wpWalk At Q [] k a := h
theorem walk_step {At : Nat → Oper → Act → Value → Prop} {Q : Act → Prop} {k : Nat} {a : Act} {o : Oper} {rest : List Oper} (v : Value) (h : At k o a v) (hn : wpWalk At Q rest (k + 1) (a.put o.dst v)) : wpWalk At Q (o :: rest) k a := ⟨v, h, hn⟩
theorem walk_out {At : Nat → Oper → Act → Value → Prop} {Q : Act → Prop} : ∀ (l : List Oper) (k : Nat) (a : Act), wpWalk At Q l k a →
    ∃ vs : List Value, vs.length = l.length ∧ (∀ (i : Nat) (o : Oper) (v : Value), l[i]? = some o → vs[i]? = some v → At (k + i) o (putSel (fun j => decide (j < k + i)) l vs k a) v) ∧
      Q (putSel (fun _ => true) l vs k a)
  | [], _, _, h => ⟨[], rfl, fun i o v h' => by simp at h', h⟩
  | o :: l, k, a, ⟨v, hs, hn⟩ => by
    obtain ⟨vs, hl, hv, hq⟩ := walk_out l (k + 1) _ hn
    refine ⟨v :: vs, by simp [hl], fun i o' v' h1 h2 => ?_, by simpa [putSel] using hq⟩
    cases i with
    | zero =>
      simp only [List.getElem?_cons_zero, Option.some.injEq] at h1 h2
      subst h1; subst h2
      rw [putSel_none _ _ _ _ (fun j hj => by simp; omega)]
      exact hs
    | succ i =>
      simp only [List.getElem?_cons_succ] at h1 h2
      have := hv i o' v' h1 h2
      simp only [putSel]
      have e : k + (i + 1) = k + 1 + i := by omega
      rw [e, if_pos (by simp; omega)]
      exact this
/-- Does operation m wait for operation k? -/
def waits (ops : Array Oper) (m k : Nat) : Bool := match ops[m]? with | some o => o.after.toList.any (fun e => Region.binds .any e && e.on == k) | none => false
/-- All that lies ahead of operation c in the text comes ahead of it, and all that lies behind it, behind. -/
def sepOk (ops : Array Oper) (c : Nat) : Bool := ((List.range c).all fun k => (List.range (c + 1)).any fun m => decide (k < m) && waits ops m k) && ((List.range ops.size).all fun k => decide (k ≤ c) || (List.range k).any fun m => decide (c ≤ m) && waits ops k m)
def Down (l : List Oper) (L : Array Bool) : Prop := ∀ (i : Nat) (o : Oper), l[i]? = some o → L.getD i false = true → ∀ e, e ∈ o.after.toList → Region.binds .any e = true → L.getD e.on false = true
theorem waits_spec {ops : Array Oper} {l : List Oper} (hl : ops = l.toArray) {m k : Nat} (h : waits ops m k = true) : ∃ o, l[m]? = some o ∧ ∃ e, e ∈ o.after.toList ∧ Region.binds .any e = true ∧ e.on = k := by
  unfold waits at h
  cases ho : ops[m]? with
  | none => rw [ho] at h; simp at h
  | some o =>
    rw [ho] at h
    obtain ⟨e, he, hb⟩ := List.any_eq_true.1 h
    simp only [Bool.and_eq_true, beq_iff_eq] at hb
    exact ⟨o, by rw [hl] at ho; simpa using ho, e, he, hb.1, hb.2⟩
theorem sep_before {ops : Array Oper} {l : List Oper} (hl : ops = l.toArray) {L : Array Bool} (hd : Down l L) {c : Nat} (hs : sepOk ops c = true) (hc : L.getD c false = true) : ∀ d k, k + d = c → L.getD k false = true := by
  intro d
  induction d using Nat.strongRecOn with
  | ind d ih =>
    intro k hk
    rcases Nat.eq_zero_or_pos d with h | h
    · obtain rfl : k = c := by omega
      exact hc
    · unfold sepOk at hs
      have h1 := List.all_eq_true.1 (Bool.and_eq_true_iff.1 hs).1 k (List.mem_range.2 (by omega))
      obtain ⟨m, hm, h2⟩ := List.any_eq_true.1 h1
      simp only [Bool.and_eq_true, decide_eq_true_eq] at h2
      have hm1 := List.mem_range.1 hm
      obtain ⟨o, ho, e, he, hb, hon⟩ := waits_spec hl h2.2
      have := hd m o ho (ih (c - m) (by omega) m (by omega)) e he hb
      rwa [hon] at this
theorem sep_after {ops : Array Oper} {l : List Oper} (hl : ops = l.toArray) {L : Array Bool} (hd : Down l L) {c : Nat} (hs : sepOk ops c = true) : ∀ k, c < k → k < l.length →
    (∀ o, l[k]? = some o → ∀ e, e ∈ o.after.toList → Region.binds .any e = true → L.getD e.on false = true) → L.getD c false = true := by
  intro k
  induction k using Nat.strongRecOn with
  | ind k ih =>
    intro hk hkl hdep
    have hs2 := hs
    unfold sepOk at hs
    have h1 := List.all_eq_true.1 (Bool.and_eq_true_iff.1 hs).2 k (List.mem_range.2 (by rw [hl]; simpa using hkl))
    simp only [Bool.or_eq_true, decide_eq_true_eq] at h1
    rcases h1 with h1 | h1
    · omega
    · obtain ⟨m, hm, h2⟩ := List.any_eq_true.1 h1
      simp only [Bool.and_eq_true, decide_eq_true_eq] at h2
      have hm1 := List.mem_range.1 hm
      obtain ⟨o, ho, e, he, hb, hon⟩ := waits_spec hl h2.2
      have hLm := hdep o ho e he hb
      rw [hon] at hLm
      rcases Nat.lt_or_ge c m with h3 | h3
      · exact ih m hm1 h3 (by omega) fun o' ho' => hd m o' ho' hLm
      · obtain rfl : m = c := by omega
        exact hLm

set_option maxHeartbeats 1000000 in
theorem wpAnyIn_pick {ops : Array Oper} {l : List Oper} (hl : ops = l.toArray) {A0 : World → Prop} {A1 : Bool → World → Prop} {A2 : Bool → Bool → World → Prop} {val1 : Bool → Value} {val2 : Bool → Bool → Value} {c1 c2 : Nat}
    {Q : Exit → Act → World → Prop} {a : Act} (hB : lexOk ops = true) (hs1 : sepOk ops c1 = true) (hs2 : sepOk ops c2 = true) (hlt : c1 < c2) (hc2 : c2 < l.length)
    (vs : Bool → Bool → List Value) (hlen : ∀ b1 b2, (vs b1 b2).length = l.length)
    (hv : ∀ (b1 b2 : Bool) (i : Nat) (o : Oper) (v : Value), l[i]? = some o → (vs b1 b2)[i]? = some v → AtP P n ops A0 A1 A2 val1 val2 c1 c2 b1 b2 i o (putSel (fun j => decide (j < i)) l (vs b1 b2) 0 a) v)
    (hq : ∀ (b1 b2 : Bool) (w' : World), A2 b1 b2 w' → Q .normal (putSel (fun _ => true) l (vs b1 b2) 0 a) w') :
    ∀ (fuel : Nat) (L : Array Bool) (A : Act) (w' : World), L.size = l.length → leftN (fun j => L.getD j false) l.length ≤ fuel → Down l L →
      ((L.getD c1 false = false ∧ A0 w' ∧ ∀ b1 b2, A = putSel (fun j => L.getD j false) l (vs b1 b2) 0 a) ∨
        (L.getD c1 false = true ∧ L.getD c2 false = false ∧ ∃ b1, A1 b1 w' ∧ ∀ b2, A = putSel (fun j => L.getD j false) l (vs b1 b2) 0 a) ∨
        (L.getD c1 false = true ∧ L.getD c2 false = true ∧ ∃ b1 b2, A2 b1 b2 w' ∧ A = putSel (fun j => L.getD j false) l (vs b1 b2) 0 a)) →
      wpAnyIn Fence.wide n P .any ops Q fuel L A w' := by
  have hops : ∀ i : Nat, ops[i]? = l[i]? := fun i => by rw [hl]; simp
  have hc1 : c1 < l.length := by omega
  have hsz : ops.size = l.length := by rw [hl]; simp
  have hsel := Region.noSelect_spec (ops := ops) (by unfold lexOk at hB; exact (Bool.and_eq_true_iff.1 hB).1)
  have hall : ∀ (L : Array Bool) (A : Act) (w' : World), ((L.getD c1 false = false ∧ A0 w' ∧ ∀ b1 b2, A = putSel (fun j => L.getD j false) l (vs b1 b2) 0 a) ∨
        (L.getD c1 false = true ∧ L.getD c2 false = false ∧ ∃ b1, A1 b1 w' ∧ ∀ b2, A = putSel (fun j => L.getD j false) l (vs b1 b2) 0 a) ∨
        (L.getD c1 false = true ∧ L.getD c2 false = true ∧ ∃ b1 b2, A2 b1 b2 w' ∧ A = putSel (fun j => L.getD j false) l (vs b1 b2) 0 a)) → (∀ j, j < l.length → L.getD j false = true) → Q .normal A w' := by
    rintro L A w' (⟨h1, _⟩ | ⟨_, h1, _⟩ | ⟨_, _, b1, b2, h1, rfl⟩) hL
    · rw [hL c1 hc1] at h1; cases h1
    · rw [hL c2 hc2] at h1; cases h1
    · rw [putSel_all (S := fun j => L.getD j false) l (vs b1 b2) 0 a fun j hj => by simpa using hL j hj]
      exact hq b1 b2 w' h1
  have mem_ready : ∀ (L : Array Bool) (i : Nat), i ∈ Region.ready .any ops L ↔ i < l.length ∧ L.getD i true = false ∧ ∃ o, l[i]? = some o ∧ ∀ e, e ∈ o.after.toList → Region.binds .any e = true → L.getD e.on false = true := by
    intro L i
    unfold Region.ready
    rw [List.mem_filter, List.mem_range, hsz]
    refine ⟨fun ⟨h1, h2⟩ => ⟨h1, ?_⟩, fun ⟨h1, h2, o, h3, h4⟩ => ⟨h1, ?_⟩⟩
    · simp only [Bool.and_eq_true, Bool.not_eq_true'] at h2
      refine ⟨h2.1, ?_⟩
      have h3 := h2.2
      rw [hops] at h3
      cases ho : l[i]? with
      | none => rw [ho] at h3; simp at h3
      | some o =>
        rw [ho] at h3
        refine ⟨o, rfl, fun e he hb => ?_⟩
        simp only [Option.map_some, Option.getD_some] at h3
        have := Array.all_eq_true_iff_forall_mem.1 h3 e (by simpa using he)
        simpa [hb] using this
    · simp only [Bool.and_eq_true, Bool.not_eq_true']
      refine ⟨h2, ?_⟩
      rw [hops, h3]
      simp only [Option.map_some, Option.getD_some]
      rw [Array.all_eq_true_iff_forall_mem]
      intro e he
      by_cases hb : Region.binds .any e = true
      · simp [hb, h4 e (by simpa using he) hb]
      · simp [hb]
  have getD_true : ∀ (L : Array Bool) (i : Nat), L.size = l.length → i < l.length → L.getD i true = L.getD i false := fun L i h1 h2 => by
    simp [Array.getD, h1, h2]
  have none_ready : ∀ (L : Array Bool), L.size = l.length → Region.ready .any ops L = [] → ∀ j, j < l.length → L.getD j false = true := by
    intro L hLs hr
    intro j
    induction j using Nat.strongRecOn with
    | ind j ih =>
      intro hj
      by_cases h : L.getD j false = true
      · exact h
      · exfalso
        have hmem : j ∈ Region.ready .any ops L := by
          rw [mem_ready]
          have hlj : l[j]? = some l[j] := List.getElem?_eq_getElem hj
          refine ⟨hj, by rw [getD_true L j hLs hj]; simpa using h, l[j], hlj, fun e he hb => ?_⟩
          have hlt := (lexOk_spec hB j l[j] (by rw [hops, hlj])).1 e he hb
          exact ih e.on hlt (by omega)
        rw [hr] at hmem
        cases hmem
  intro fuel
  induction fuel with
  | zero =>
    intro L A w' hLs hf _ hC
    have hl0 := leftN_zero l.length (by omega : leftN (fun j => L.getD j false) l.length = 0)
    refine ⟨?_, hall L A w' hC hl0⟩
    rw [List.eq_nil_iff_forall_not_mem]
    intro i hi
    rw [mem_ready] at hi
    have := hl0 i hi.1
    rw [← getD_true L i hLs hi.1, hi.2.1] at this
    cases this
  | succ fuel ih =>
    intro L A w' hLs hf hDn hC
    refine ⟨fun hr => hall L A w' hC (none_ready L hLs hr), fun i hi => ?_⟩
    rw [mem_ready] at hi
    obtain ⟨hil, hLi, o, ho, hdep⟩ := hi
    have hLi' : L.getD i false = false := by rw [← getD_true L i hLs hil]; exact hLi
    have hset : ∀ j : Nat, (L.setIfInBounds i true).getD j false = if j = i then true else L.getD j false := by
      intro j
      simp only [Array.getD_eq_getD_getElem?]
      by_cases e : j = i
      · subst e; rw [Array.getElem?_setIfInBounds]; simp [hLs, hil]
      · rw [Array.getElem?_setIfInBounds_ne (fun h => e h.symm)]; simp [e]
    have hsz2 : (L.setIfInBounds i true).size = l.length := by simp [hLs]
    have hleft : leftN (fun j => (L.setIfInBounds i true).getD j false) l.length ≤ fuel := by
      have := leftN_set (S := fun j => L.getD j false) (S' := fun j => (L.setIfInBounds i true).getD j false) (i := i) hLi' (by rw [hset]; simp) (fun j hj => by rw [hset, if_neg hj]) l.length hil
      omega
    have hDn2 : Down l (L.setIfInBounds i true) := by
      intro k ok hk hLk e he hb
      rw [hset] at hLk ⊢
      by_cases hki : k = i
      · subst hki
        rw [ho] at hk
        obtain rfl := Option.some.inj hk
        by_cases h : e.on = k
        · rw [if_pos h]
        · rw [if_neg h]; exact hdep e he hb
      · rw [if_neg hki] at hLk
        by_cases h : e.on = i
        · rw [if_pos h]
        · rw [if_neg h]; exact hDn k ok hk hLk e he hb
    have hput : ∀ (b1 b2 : Bool) (v : Value), (vs b1 b2)[i]? = some v → (putSel (fun j => L.getD j false) l (vs b1 b2) 0 a).put o.dst v = putSel (fun j => (L.setIfInBounds i true).getD j false) l (vs b1 b2) 0 a := by
      intro b1 b2 v hvi
      exact putSel_set (S := fun j => L.getD j false) (S' := fun j => (L.setIfInBounds i true).getD j false) l (vs b1 b2) 0 a i o v ho hvi (by simpa using hLi') (by rw [Nat.zero_add, hset]; simp)
        (fun j hj => by rw [hset, if_neg (by omega)]) (fun j o' hj hne d hd hd' => (((lexOk_spec hB i o (by rw [hops, ho])).2 j o' d (by rw [hops, hj]) hd').1 (fun e => hne e.symm)) hd)
    -- the frame here and the frame of the walk hold the same in what the operation looks at
    have hsame : ∀ (b1 b2 : Bool) (d : Tmp), d ∈ o.looksAt ops → (putSel (fun j => L.getD j false) l (vs b1 b2) 0 a).tmps[d]? = (putSel (fun j => decide (j < i)) l (vs b1 b2) 0 a).tmps[d]? := by
      intro b1 b2 d hd
      refine putSel_slot d l (vs b1 b2) 0 a a rfl fun j oj hj hjd => ?_
      obtain ⟨h1, e, he, hb, hon⟩ := ((lexOk_spec hB i o (by rw [hops, ho])).2 j oj d (by rw [hops, hj]) hjd).2 hd
      have := hdep e he hb
      rw [hon] at this
      simp only [Nat.zero_add]
      rw [this]; simp [h1]
    have hexec : ∀ b1 b2 : Bool, execOp (putSel (fun j => L.getD j false) l (vs b1 b2) 0 a).eval o = execOp (putSel (fun j => decide (j < i)) l (vs b1 b2) 0 a).eval o := by
      intro b1 b2
      refine execOp_congr o (fun cs b => hsel i o cs b (by rw [hops, ho])) fun x hx => ?_
      cases x with
      | tmp t =>
        have := hsame b1 b2 t (by unfold Oper.looksAt; exact List.mem_append_left _ (List.mem_filterMap.2 ⟨.tmp t, by simpa using hx, rfl⟩))
        generalize putSel (fun j => L.getD j false) l (vs b1 b2) 0 a = A at this ⊢
        generalize putSel (fun j => decide (j < i)) l (vs b1 b2) 0 a = A' at this ⊢
        simp only [Act.eval, Array.getD_eq_getD_getElem?, this]
      | const v => rfl
      | global g => rfl
      | func f => rfl
    have hwant : ∀ b1 b2 : Bool, Region.wanted o (yielded ops (putSel (fun j => L.getD j false) l (vs b1 b2) 0 a).tmps) = Region.wanted o (yielded ops (putSel (fun j => decide (j < i)) l (vs b1 b2) 0 a).tmps) := by
      intro b1 b2
      unfold Region.wanted
      cases hg : o.guard with
      | none => rfl
      | some gw =>
        obtain ⟨g, want⟩ := gw
        have : yielded ops (putSel (fun j => L.getD j false) l (vs b1 b2) 0 a).tmps g = yielded ops (putSel (fun j => decide (j < i)) l (vs b1 b2) 0 a).tmps g := by
          unfold yielded
          cases hgd : (ops[g]?).bind (·.dst) with
          | none => rfl
          | some t =>
            have := hsame b1 b2 t (by unfold Oper.looksAt; rw [hg]; simp [hgd])
            simp only [Option.bind_some, this]
        simp only [this]
    have hget : ∀ b1 b2 : Bool, ∃ v, (vs b1 b2)[i]? = some v := fun b1 b2 => ⟨_, List.getElem?_eq_getElem (by rw [hlen]; exact hil)⟩
    -- an operation that calls
    have hask : ∀ (b1 b2 : Bool) (next : Value → World → Prop), Ask P n ops o (putSel (fun j => decide (j < i)) l (vs b1 b2) 0 a) next w' →
        (∀ v w'', next v w'' → wpAnyIn Fence.wide n P .any ops Q fuel (L.setIfInBounds i true) ((putSel (fun j => L.getD j false) l (vs b1 b2) 0 a).put o.dst v) w'') →
        wpOpIn Fence.wide n P ops Q i (wpAnyIn Fence.wide n P .any ops Q fuel (L.setIfInBounds i true)) (putSel (fun j => L.getD j false) l (vs b1 b2) 0 a) w' := by
      intro b1 b2 next hA hK
      unfold wpOpIn
      rw [hops, ho]
      simp only
      rw [hwant b1 b2]
      rcases hA with ⟨hw, hr⟩ | ⟨hw, hr⟩
      · rw [if_pos hw]
        refine ⟨fun _ _ => trivial, ?_⟩
        show o.uponIn _ _ _ _ _ _ ((execOp _ o).run P w')
        rw [hexec b1 b2]
        exact pickUpon_in hr hK
      · rw [if_neg (by rw [hw]; simp)]
        exact ⟨fun _ _ => trivial, hK _ _ hr⟩
    -- an operation that reads
    have hord : ∀ (S : Bool → Bool → Prop) (hS : ∃ b1 b2, S b1 b2), (∀ b1 b2, S b1 b2 → (if i < c1 then A0 else if i < c2 then A1 b1 else A2 b1 b2) w') → i ≠ c1 → i ≠ c2 → (∀ b1 b2, S b1 b2 → A = putSel (fun j => L.getD j false) l (vs b1 b2) 0 a) →
        (∀ A' : Act, (∀ b1 b2, S b1 b2 → A' = putSel (fun j => (L.setIfInBounds i true).getD j false) l (vs b1 b2) 0 a) → wpAnyIn Fence.wide n P .any ops Q fuel (L.setIfInBounds i true) A' w') →
        wpOpIn Fence.wide n P ops Q i (wpAnyIn Fence.wide n P .any ops Q fuel (L.setIfInBounds i true)) A w' := by
      rintro S ⟨b1, b2, hb⟩ hst hi1 hi2 hA hK
      have key : ∀ b1 b2, S b1 b2 → ∃ v, (vs b1 b2)[i]? = some v ∧ ((Region.wanted o (yielded ops A.tmps) = true ∧ (execOp A.eval o).run P w' = .ok (.value v) w') ∨ (Region.wanted o (yielded ops A.tmps) = false ∧ v = undef)) := by
        intro b1 b2 hb
        obtain ⟨v, hvi⟩ := hget b1 b2
        have h := hv b1 b2 i o v ho hvi
        unfold AtP at h
        rw [if_neg hi1, if_neg hi2] at h
        refine ⟨v, hvi, ?_⟩
        rw [hA b1 b2 hb, hwant b1 b2, hexec b1 b2]
        rcases h with ⟨h1, h2⟩ | ⟨h1, h2⟩
        · exact .inl ⟨h1, h2 w' (hst b1 b2 hb)⟩
        · exact .inr ⟨h1, h2⟩
      obtain ⟨v, hvi, hr⟩ := key b1 b2 hb
      have hgo : wpAnyIn Fence.wide n P .any ops Q fuel (L.setIfInBounds i true) (A.put o.dst v) w' := by
        refine hK _ fun b1' b2' hb' => ?_
        obtain ⟨v', hvi', hr'⟩ := key b1' b2' hb'
        have hvv : v = v' := by
          rcases hr with ⟨h1, h2⟩ | ⟨h1, h2⟩ <;> rcases hr' with ⟨h3, h4⟩ | ⟨h3, h4⟩
          · rw [h2] at h4; cases h4; rfl
          · rw [h1] at h3; cases h3
          · rw [h1] at h3; cases h3
          · rw [h2, h4]
        rw [hvv, hA b1' b2' hb']
        exact hput b1' b2' v' hvi'
      unfold wpOpIn
      rw [hops, ho]
      simp only
      rcases hr with ⟨h1, h2⟩ | ⟨h1, h2⟩
      · rw [if_pos h1]
        refine ⟨fun _ _ => trivial, ?_⟩
        show o.uponIn _ _ _ _ _ _ ((execOp _ o).run P w')
        rw [h2]
        exact hgo
      · rw [if_neg (by rw [h1]; simp)]
        rw [h2] at hgo
        exact ⟨fun _ _ => trivial, hgo⟩
    rcases hC with ⟨hL1, hw0, hA⟩ | ⟨hL1, hL2, b1, hw1, hA⟩ | ⟨hL1, hL2, b1, b2, hw2, hA⟩
    · have hle : i ≤ c1 := by
        rcases Nat.lt_or_ge c1 i with h | h
        · have := sep_after hl hDn hs1 i h hil fun o' ho' e he hb => by rw [ho] at ho'; obtain rfl := Option.some.inj ho'; exact hdep e he hb
          rw [hL1] at this
          cases this
        · exact h
      have hi2 : i ≠ c2 := by omega
      have hc2f : L.getD c2 false = false := by
        cases hcc : L.getD c2 false with
        | false => rfl
        | true =>
          have := sep_before hl hDn hs2 hcc (c2 - c1) c1 (by omega)
          rw [hL1] at this
          cases this
      by_cases hi1 : i = c1
      · obtain ⟨v, hvi⟩ := hget true true
        have h := hv true true i o v ho hvi
        unfold AtP at h
        rw [if_pos hi1] at h
        rw [hA true true]
        refine hask true true _ (h.2 w' hw0) ?_
        rintro u w'' ⟨b, rfl, h1⟩
        refine ih _ _ w'' hsz2 hleft hDn2 (.inr (.inl ⟨by rw [hset, if_pos hi1.symm], by rw [hset, if_neg (fun e => hi2 e.symm)]; exact hc2f, b, h1, fun b2 => ?_⟩))
        rw [← hA true true, hA b b2]
        obtain ⟨v2, hvi2⟩ := hget b b2
        have h2 := hv b b2 i o v2 ho hvi2
        unfold AtP at h2
        rw [if_pos hi1] at h2
        rw [← h2.1]
        exact hput b b2 v2 hvi2
      · refine hord (fun _ _ => True) ⟨true, true, trivial⟩ (fun b1 b2 _ => by rw [if_pos (by omega)]; exact hw0) hi1 hi2 (fun b1 b2 _ => hA b1 b2) fun A' hA' => ih _ _ w' hsz2 hleft hDn2 (.inl ⟨by rw [hset, if_neg (fun e => hi1 e.symm)]; exact hL1, hw0, fun b1 b2 => hA' b1 b2 trivial⟩)
    · have hgt : c1 < i := by
        rcases Nat.lt_or_ge c1 i with h | h
        · exact h
        · have := sep_before hl hDn hs1 hL1 (c1 - i) i (by omega)
          rw [hLi'] at this
          cases this
      have hle : i ≤ c2 := by
        rcases Nat.lt_or_ge c2 i with h | h
        · have := sep_after hl hDn hs2 i h hil fun o' ho' e he hb => by rw [ho] at ho'; obtain rfl := Option.some.inj ho'; exact hdep e he hb
          rw [hL2] at this
          cases this
        · exact h
      have hi1 : i ≠ c1 := by omega
      by_cases hi2 : i = c2
      · obtain ⟨v, hvi⟩ := hget b1 true
        have h := hv b1 true i o v ho hvi
        unfold AtP at h
        rw [if_neg hi1, if_pos hi2] at h
        rw [hA true]
        refine hask b1 true _ (h.2 w' hw1) ?_
        rintro u w'' ⟨b, rfl, h1⟩
        refine ih _ _ w'' hsz2 hleft hDn2 (.inr (.inr ⟨by rw [hset, if_neg (fun e => hi1 e.symm)]; exact hL1, by rw [hset, if_pos hi2.symm], b1, b, h1, ?_⟩))
        rw [← hA true, hA b]
        obtain ⟨v2, hvi2⟩ := hget b1 b
        have h2 := hv b1 b i o v2 ho hvi2
        unfold AtP at h2
        rw [if_neg hi1, if_pos hi2] at h2
        rw [← h2.1]
        exact hput b1 b v2 hvi2
      · refine hord (fun b _ => b = b1) ⟨b1, true, rfl⟩ (fun b b2 e => by rw [if_neg (by omega), if_pos (by omega), e]; exact hw1) hi1 hi2 (fun b b2 e => by rw [e]; exact hA b2) fun A' hA' => ih _ _ w' hsz2 hleft hDn2 (.inr (.inl ⟨by rw [hset, if_neg (fun e => hi1 e.symm)]; exact hL1, by rw [hset, if_neg (fun e => hi2 e.symm)]; exact hL2, b1, hw1, fun b2 => hA' b1 b2 rfl⟩))
    · have hgt : c2 < i := by
        rcases Nat.lt_or_ge c2 i with h | h
        · exact h
        · have := sep_before hl hDn hs2 hL2 (c2 - i) i (by omega)
          rw [hLi'] at this
          cases this
      have hi1 : i ≠ c1 := by omega
      have hi2 : i ≠ c2 := by omega
      refine hord (fun b b' => b = b1 ∧ b' = b2) ⟨b1, b2, rfl, rfl⟩ (fun b b' e => by rw [if_neg (by omega), if_neg (by omega), e.1, e.2]; exact hw2) hi1 hi2 (fun b b' e => by rw [e.1, e.2]; exact hA) fun A' hA' => ih _ _ w' hsz2 hleft hDn2 (.inr (.inr ⟨by rw [hset, if_neg (fun e => hi1 e.symm)]; exact hL1, by rw [hset, if_neg (fun e => hi2 e.symm)]; exact hL2, b1, b2, hw2, hA' b1 b2 ⟨rfl, rfl⟩⟩))

theorem wpIn_region_pick {id : Nat} {l : List Oper} {Q : Exit → Act → World → Prop} {a : Act} {w : World} (A0 : World → Prop) (A1 : Bool → World → Prop) (A2 : Bool → Bool → World → Prop) (val1 : Bool → Value) (val2 : Bool → Bool → Value) (c1 c2 : Nat)
    (hm : P.follows .mixedOrders = true) (hB : lexOk l.toArray = true) (hs1 : sepOk l.toArray c1 = true) (hs2 : sepOk l.toArray c2 = true) (hlt : c1 < c2) (hc2 : c2 < l.length) (h0 : A0 { w with drawn := w.drawn + 1 })
    (h : ∀ b1 b2, wpWalk (AtP P n l.toArray A0 A1 A2 val1 val2 c1 c2 b1 b2) (fun a' => ∀ w', A2 b1 b2 w' → Q .normal a' w') l 0 a) : (Code.region id l.toArray true).wpIn Fence.wide n P Q a w := by
  have hex : ∀ b : Bool × Bool, ∃ vs : List Value, vs.length = l.length ∧ (∀ (i : Nat) (o : Oper) (v : Value), l[i]? = some o → vs[i]? = some v → AtP P n l.toArray A0 A1 A2 val1 val2 c1 c2 b.1 b.2 i o (putSel (fun j => decide (j < i)) l vs 0 a) v) ∧
      ∀ w', A2 b.1 b.2 w' → Q .normal (putSel (fun _ => true) l vs 0 a) w' := fun b => by
    obtain ⟨vs, h1, h2, h3⟩ := walk_out l 0 a (h b.1 b.2)
    exact ⟨vs, h1, by simpa using h2, h3⟩
  obtain ⟨vs, hvs⟩ := Classical.axiomOfChoice hex
  refine wpIn_region_any hm ?_
  refine wpAnyIn_pick (ops := l.toArray) rfl hB hs1 hs2 hlt hc2 (fun b1 b2 => vs (b1, b2)) (fun b1 b2 => (hvs (b1, b2)).1) (fun b1 b2 => (hvs (b1, b2)).2.1) (fun b1 b2 => (hvs (b1, b2)).2.2) _ _ _ _ (by simp) (by
    have := leftN_rep l.length l.length (Nat.le_refl _)
    simp only [List.size_toArray]
    omega) ?_ (.inl ⟨?_, h0, fun b1 b2 => ?_⟩)
  · intro i o _ hL
    simp [Array.getD] at hL
  · simp [Array.getD]
  · rw [putSel_none _ _ _ _ (fun j _ => by simp [Array.getD])]
def SameW (w w' : World) : Prop := w' = w
/-- A value, and the world as it was. -/
def readUpon (v : Value) (w : World) : Result Next → Prop
  | .ok (.value u) w' => SameW w w' ∧ u = v
  | _ => False
theorem readUpon_spec {v : Value} {w : World} {r : Result Next} (h : readUpon v w r) : r = .ok (.value v) w := by
  cases r with
  | halt x w' => exact h.elim
  | ok x w' =>
    cases x <;> simp only [readUpon] at h
    rw [h.2, show w' = w from h.1]
section
variable {ops : Array Oper} {A0 : World → Prop} {A1 : Bool → World → Prop} {A2 : Bool → Bool → World → Prop} {val1 : Bool → Value} {val2 : Bool → Bool → Value} {c1 c2 k : Nat} {b1 b2 : Bool} {o : Oper} {a : Act} {v : Value}
theorem at_read0 (h1 : k < c1) (h2 : k < c2) (hw : Region.wanted o (yielded ops a.tmps) = true) (h : ∀ w, A0 w → readUpon v w ((execOp a.eval o).run P w)) : AtP P n ops A0 A1 A2 val1 val2 c1 c2 b1 b2 k o a v := by
  unfold AtP
  rw [if_neg (by omega), if_neg (by omega), if_pos h1]
  exact .inl ⟨hw, fun w hw => readUpon_spec (h w hw)⟩
theorem at_read1 (h1 : c1 < k) (h2 : k < c2) (hw : Region.wanted o (yielded ops a.tmps) = true) (h : ∀ w, A1 b1 w → readUpon v w ((execOp a.eval o).run P w)) : AtP P n ops A0 A1 A2 val1 val2 c1 c2 b1 b2 k o a v := by
  unfold AtP
  rw [if_neg (by omega), if_neg (by omega), if_neg (by omega), if_pos h2]
  exact .inl ⟨hw, fun w hw => readUpon_spec (h w hw)⟩
theorem at_read2 (h1 : c1 < k) (h2 : c2 < k) (hw : Region.wanted o (yielded ops a.tmps) = true) (h : ∀ w, A2 b1 b2 w → readUpon v w ((execOp a.eval o).run P w)) : AtP P n ops A0 A1 A2 val1 val2 c1 c2 b1 b2 k o a v := by
  unfold AtP
  rw [if_neg (by omega), if_neg (by omega), if_neg (by omega), if_neg (by omega)]
  exact .inl ⟨hw, fun w hw => readUpon_spec (h w hw)⟩
theorem at_skip (h1 : k ≠ c1) (h2 : k ≠ c2) (hw : Region.wanted o (yielded ops a.tmps) = false) : AtP P n ops A0 A1 A2 val1 val2 c1 c2 b1 b2 k o a undef := by
  unfold AtP
  rw [if_neg h1, if_neg h2]
  exact .inr ⟨hw, rfl⟩
theorem at_ask1 (hw : Region.wanted o (yielded ops a.tmps) = true) (h : ∀ w, A0 w → ∀ next : Value → World → Prop, (∀ b w', A1 b w' → next (val1 b) w') → pickUpon P n next ((execOp a.eval o).run P w)) : AtP P n ops A0 A1 A2 val1 val2 k c2 b1 b2 k o a (val1 b1) := by
  unfold AtP
  rw [if_pos rfl]
  exact ⟨rfl, fun w h0 => .inl ⟨hw, h w h0 _ fun b w' h' => ⟨b, rfl, h'⟩⟩⟩
theorem at_not1 (hw : Region.wanted o (yielded ops a.tmps) = false) (h : ∀ w, A0 w → ∃ b, undef = val1 b ∧ A1 b w) : AtP P n ops A0 A1 A2 val1 val2 k c2 b1 b2 k o a (val1 b1) := by
  unfold AtP
  rw [if_pos rfl]
  exact ⟨rfl, fun w h0 => .inr ⟨hw, h w h0⟩⟩
theorem at_ask2 (hk : k ≠ c1) (hw : Region.wanted o (yielded ops a.tmps) = true) (h : ∀ w, A1 b1 w → ∀ next : Value → World → Prop, (∀ b w', A2 b1 b w' → next (val2 b1 b) w') → pickUpon P n next ((execOp a.eval o).run P w)) : AtP P n ops A0 A1 A2 val1 val2 c1 k b1 b2 k o a (val2 b1 b2) := by
  unfold AtP
  rw [if_neg hk, if_pos rfl]
  exact ⟨rfl, fun w h0 => .inl ⟨hw, h w h0 _ fun b w' h' => ⟨b, rfl, h'⟩⟩⟩
theorem at_not2 (hk : k ≠ c1) (hw : Region.wanted o (yielded ops a.tmps) = false) (h : ∀ w, A1 b1 w → ∃ b, undef = val2 b1 b ∧ A2 b1 b w) : AtP P n ops A0 A1 A2 val1 val2 c1 k b1 b2 k o a (val2 b1 b2) := by
  unfold AtP
  rw [if_neg hk, if_pos rfl]
  exact ⟨rfl, fun w h0 => .inr ⟨hw, h w h0⟩⟩
theorem walk_read0 {rest : List Oper} {Q : Act → Prop} (v : Value) (h1 : k < c1) (h2 : k < c2) (hw : Region.wanted o (yielded ops a.tmps) = true) (h : ∀ w, A0 w → readUpon v w ((execOp a.eval o).run P w))
    (hn : wpWalk (AtP P n ops A0 A1 A2 val1 val2 c1 c2 b1 b2) Q rest (k + 1) (a.put o.dst v)) : wpWalk (AtP P n ops A0 A1 A2 val1 val2 c1 c2 b1 b2) Q (o :: rest) k a := ⟨v, at_read0 h1 h2 hw h, hn⟩
theorem walk_read1 {rest : List Oper} {Q : Act → Prop} (v : Value) (h1 : c1 < k) (h2 : k < c2) (hw : Region.wanted o (yielded ops a.tmps) = true) (h : ∀ w, A1 b1 w → readUpon v w ((execOp a.eval o).run P w))
    (hn : wpWalk (AtP P n ops A0 A1 A2 val1 val2 c1 c2 b1 b2) Q rest (k + 1) (a.put o.dst v)) : wpWalk (AtP P n ops A0 A1 A2 val1 val2 c1 c2 b1 b2) Q (o :: rest) k a := ⟨v, at_read1 h1 h2 hw h, hn⟩
theorem walk_read2 {rest : List Oper} {Q : Act → Prop} (v : Value) (h1 : c1 < k) (h2 : c2 < k) (hw : Region.wanted o (yielded ops a.tmps) = true) (h : ∀ w, A2 b1 b2 w → readUpon v w ((execOp a.eval o).run P w))
    (hn : wpWalk (AtP P n ops A0 A1 A2 val1 val2 c1 c2 b1 b2) Q rest (k + 1) (a.put o.dst v)) : wpWalk (AtP P n ops A0 A1 A2 val1 val2 c1 c2 b1 b2) Q (o :: rest) k a := ⟨v, at_read2 h1 h2 hw h, hn⟩
end
end
end Go.Proofs.YtiknhfbkphoceaaGreatDoor
