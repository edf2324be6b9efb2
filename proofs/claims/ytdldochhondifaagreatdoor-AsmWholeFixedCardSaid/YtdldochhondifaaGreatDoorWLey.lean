/-
  Texts of the claim AsmWholeFixed (Ley): what each proves stands at its theorems.
  Conditions: as the theorems say.
-/
import Derived.Lib.AppendZeros
import Derived.Deep.AppendLies
import Derived.Test.YtdldochhondifaaGreatDoorWKitD
import Derived.Test.YtdldochhondifaaGreatDoorWIng
namespace Go.Proofs.YtdldochhondifaaGreatDoor
open Go.RowKit

theorem zeroCells_one (z : Value) (hz : z.cells = #[z]) (m : Nat) : Builtin.zeroCells z.cells m = (List.replicate m z).toArray := by
  rw [hz]
  apply Array.ext
  · simp [Builtin.zeroCells]
  · intro j h1 h2
    simp [Builtin.zeroCells, Nat.mod_one]
section
variable {P : Program}
set_option maxHeartbeats 1000000 in
theorem run_app_zeros (w : World) (base : Nat) (t tn ty e : TypeId) (i : TypeInfo) (z : Value) (k kn : IntKind) (ht : P.underlying t = some (.slice e)) (htn : P.underlying tn = some (.int kn)) (hi : P.info? e = some i) (hz : i.zero = some z)
    (hs : i.size = 1) (hzc : z.cells = #[z]) (hone : z.oneCell' = true) (hby : i.bytes ≤ 10000) (v : Value) (n : Nat) (xs : List Value) (hown : w.ownsRow base e 1 v n xs) (m : Nat) (hlen : n + m ≤ 4000000000) (hbase : base ≤ w.heap.size) :
    ∃ v' w', (Builtin.append_ #[t, tn] ty #[v, .int k (m : Int)]).run P w = .ok v' w' ∧ w'.ownsRow base e 1 v' (n + m) (xs ++ List.replicate m z) ∧ w.grownBy w' v.ownBlock ∧ (v'.ownBlock = v.ownBlock ∨ v'.ownBlock = some w.heap.size) := by
  have hw : IntKind.i64.wrap (m : Int) = m := by rw [IntKind.wrap_i64]; omega
  have hw0 : IntKind.i64.wrap (0 : Int) = 0 := by rw [IntKind.wrap_i64]; omega
  have hneg : ¬ ((m : Int) < 0) := by omega
  have hmul : (n + m) * i.bytes ≤ 140737488355328 := Nat.le_trans (Nat.mul_le_mul hlen hby) (by decide)
  have hmb : m * i.bytes ≤ 140737488355328 := Nat.le_trans (Nat.mul_le_mul_right _ (by omega)) hmul
  have h48i : ¬ (281474976710656 < (m : Int) * (i.bytes : Int)) := by
    rw [← Int.natCast_mul]
    omega
  have hzl : ∀ j, Builtin.zeroCells z.cells j = (List.replicate j z).toArray := zeroCells_one z hzc
  rcases hown.2 with ⟨rfl, rfl⟩ | ⟨g, cap, cur, rfl, hbg, hg, hnc, hcm, hcs, htake⟩
  · have hx : xs = [] := List.eq_nil_of_length_eq_zero (by simpa using hown.1)
    subst hx
    by_cases h0 : m = 0
    · subst h0
      refine ⟨.slice none 0 0, w, ?_, World.ownsRow_nil w base e 1, World.grownBy.refl w _, .inl rfl⟩
      simp [Builtin.append_, run_underlying ht, run_underlying htn, sizeOf, typeInfo, hi, asInt, asIntOf, hw0]
    · have hr := Lib.run_append_nil_zeros (P := P) w t tn ty e i z k kn ht htn hi hz m (by omega) (by omega) (by omega) (by omega)
      have hge := grownCap_ge w m 0 e
      refine ⟨_, _, hr, ?_, ⟨rfl, rfl, rfl, by simp, fun k hk _ => Below.heap_alloc w.drew _ k hk⟩, .inr rfl⟩
      rw [Nat.zero_add]
      refine ⟨by simp, .inr ⟨w.heap.size, _, _, rfl, hbase, heap_alloc_new w.drew _, hge, grownCap_le_maxLen w m 0 e (by unfold maxLen; omega), ?_, ?_⟩⟩
      · rw [hzl, hzl]
        simp
        omega
      · rw [hzl, hzl]
        simp
  · by_cases hroom : n + m ≤ cap
    · have hfit : n * 1 + (List.replicate m z).length ≤ cur.size := by rw [List.length_replicate, hcs]; omega
      have hst := run_storeCells_at P g (n * 1) e (List.replicate m z) 0 cur w hg (by simpa using hfit) (fun u hu => by rw [(List.mem_replicate.1 hu).2]; exact hone)
      simp only [Nat.add_zero] at hst
      refine ⟨.slice (some ⟨g, 0, none⟩) (n + m) cap, w.setRow g (cur.toList.take (n * 1) ++ List.replicate m z ++ cur.toList.drop (n * 1 + (List.replicate m z).length)).toArray, ?_, ?_, ⟨rfl, rfl, rfl, by simp, fun k _ hk => setRow_other w g k _ (fun e => hk (by simp [Value.ownBlock, e]))⟩, .inl rfl⟩
      · by_cases h0 : m = 0
        · subst h0
          simp only [List.replicate_zero] at hst ⊢
          simp [Builtin.append_, run_underlying ht, run_underlying htn, sizeOf, typeInfo, hi, asInt, asIntOf, hw0, hs, hnc, Addr.add_lit]
          simp at hst
          simp [hst]
        · simp only [Nat.mul_one] at hst
          simp [Builtin.append_, run_underlying ht, run_underlying htn, sizeOf, typeInfo, zeroValue, hi, hz, asInt, asIntOf, hw, hs, h0, hneg, h48i, hroom, hzl, Addr.add_lit, hst]
      · refine ⟨by simp; have := hown.1; omega, .inr ⟨g, cap, _, rfl, hbg, setRow_heap w g cur _ e _ hg, hroom, hcm, ?_, ?_⟩⟩
        · simp only [List.size_toArray, List.length_append, List.length_take, List.length_drop, Array.length_toList]
          omega
        · rw [htake]
          have hl : (xs ++ List.replicate m z).length = (n + m) * 1 := by simp; have := hown.1; omega
          rw [← hl]
          exact List.take_left
    · have holds : ∀ j u, xs[j]? = some u → w.drew.cell? ((⟨g, 0, none⟩ : Addr).add j) = some u := hown.cells (g := g) rfl
      have hf := run_firstCells_some (P := P) w.drew 1 n ⟨g, 0, none⟩ n cap xs hown.1 holds
      have h0 : m ≠ 0 := by omega
      have hfit : ¬ (281474976710656 < Builtin.nextslicecap (n + m) cap * i.bytes) := by
        have := growslice_fits (need := n + m) (old := cap) (bytes := i.bytes) (by omega) hmul
        omega
      have h63 : ¬ (9223372036854775807 < (n : Int) + (m : Int)) := by omega
      have hge := grownCap_ge w (n + m) cap e
      refine ⟨.slice (some ⟨w.heap.size, 0, none⟩) (n + m) (grownCap w (n + m) cap e), w.drew.alloc (.cells (xs.toArray ++ (List.replicate m z).toArray ++ Builtin.zeroCells z.cells (grownCap w (n + m) cap e - (n + m))) e), ?_, ?_, ⟨rfl, rfl, rfl, by simp, fun k hk _ => Below.heap_alloc w.drew _ k hk⟩, .inr rfl⟩
      · simp [Builtin.append_, run_underlying ht, run_underlying htn, sizeOf, typeInfo, zeroValue, hi, hz, asInt, asIntOf, hw, hs, h0, hneg, h48i, hroom, h63, hfit, Question.forced, hzl, hf, newRow, grownCap]
      · refine ⟨by simp; have := hown.1; omega, .inr ⟨w.heap.size, _, _, rfl, hbase, heap_alloc_new w.drew _, hge, grownCap_le_maxLen w (n + m) cap e (by unfold maxLen; omega), ?_, ?_⟩⟩
        · rw [hzl]
          simp
          have := hown.1
          omega
        · have hl : (xs ++ List.replicate m z).length = (n + m) * 1 := by simp; have := hown.1; omega
          rw [hzl, ← hl, show ∀ q : Nat, (xs.toArray ++ (List.replicate m z).toArray ++ (List.replicate q z).toArray).toList = (xs ++ List.replicate m z) ++ List.replicate q z from fun q => by simp]
          exact List.take_left
theorem row_form {w : World} {base : Nat} {e : TypeId} {size : Nat} {v : Value} {n : Nat} {xs : List Value} (h : w.ownsRow base e size v n xs) : ∃ A cap, v = .slice A n cap := by
  rcases h.2 with ⟨rfl, rfl⟩ | ⟨g, cap, cur, e, _⟩
  · exact ⟨none, 0, rfl⟩
  · exact ⟨_, cap, e⟩
/-- append(v, x...), x whatever slice: the run. -/
theorem run_app_src {w : World} (t ty e : TypeId)
    (z : Value) (size bytes : Nat) (ht : P.underlying t = some (.slice e)) (hinfo : (P.info? e).map (fun i => (i.zero, i.size, i.bytes)) = some (some z, size, bytes)) (hzs : z.cells.size = size) (hsz : 0 < size) (hby : bytes ≤ 10000)
    (base : Nat) (v : Value) (n : Nat) (xs : List Value) (hown : w.ownsRow base e size v n xs)
    (A : Option Addr) (m c : Nat) (news : List Value) (hl : news.length = m * size) (hnews : 0 < m → ∃ ad, A = some ad ∧ ∀ j u, news[j]? = some u → w.cell? (ad.add j) = some u) (h1 : ∀ u ∈ news, u.oneCell' = true)
    (hlen : n + m ≤ 4000000000) (hbase : base ≤ w.heap.size) :
    ∃ B cap w', (Builtin.append_ #[t, t] ty #[v, .slice A m c]).run P w = .ok (.slice B (n + m) cap) w' ∧ Appended w base e size v (n + m) (xs ++ news) w.heap.size (.slice B (n + m) cap) w' := by
  obtain ⟨i, hi, hz, hsize, hbytes⟩ := info_parts hinfo
  have key : ∃ v' w', (Builtin.append_ #[t, t] ty #[v, .slice A m c]).run P w = .ok v' w' ∧ Appended w base e size v (n + m) (xs ++ news) w.heap.size v' w' := by
    have some_case : ∀ ad : Addr, A = some ad → (∀ j u, news[j]? = some u → w.cell? (ad.add j) = some u) → ∃ v' w', (Builtin.append_ #[t, t] ty #[v, .slice A m c]).run P w = .ok v' w' ∧ Appended w base e size v (n + m) (xs ++ news) w.heap.size v' w' := by
      intro ad hA hc
      subst hA
      have hmul : (n + m) * bytes ≤ 140737488355328 := Nat.le_trans (Nat.mul_le_mul hlen hby) (by decide)
      obtain ⟨v', w', hrun, h2, h3, _, h5⟩ := run_append_own_at (P := P) w base t ty e i z size bytes ht hi hz hsize hbytes hzs hsz v n xs hown ad m c news hl hc h1 (by unfold maxLen; omega) hmul hbase
      exact ⟨v', w', hrun, h2, grown_below h3 hbase (own_block_ge hown), h3, h5⟩
    rcases Nat.eq_zero_or_pos m with h0 | h0
    · subst h0
      have hn : news = [] := List.eq_nil_of_length_eq_zero (by simpa using hl)
      subst hn
      rcases A with _ | ad
      · exact ⟨v, w, run_app_nil w base t _ e i size ht hi v n xs hown c, by simpa using hown, Below.refl _ _, World.grownBy.refl w _, .inl rfl⟩
      · exact some_case ad rfl fun j u hu => by simp at hu
    · obtain ⟨ad, rfl, hc⟩ := hnews h0
      exact some_case ad rfl hc
  obtain ⟨v', w', hrun, hap⟩ := key
  obtain ⟨B, cap, rfl⟩ := row_form hap.1
  exact ⟨B, cap, w', hrun, hap⟩
/-- append(v, make([]T, m)...): the run. -/
theorem run_app_made {w : World} (t tn ty e : TypeId) (kn k : IntKind)
    (z : Value) (bytes : Nat) (ht : P.underlying t = some (.slice e)) (htn : P.underlying tn = some (.int kn)) (hinfo : (P.info? e).map (fun i => (i.zero, i.size, i.bytes)) = some (some z, 1, bytes)) (hzc : z.cells = #[z]) (hone : z.oneCell' = true) (hby : bytes ≤ 10000)
    (base : Nat) (v : Value) (n : Nat) (xs : List Value) (hown : w.ownsRow base e 1 v n xs) (m : Nat) (hlen : n + m ≤ 4000000000) (hbase : base ≤ w.heap.size) :
    ∃ B cap w', (Builtin.append_ #[t, tn] ty #[v, .int k (m : Int)]).run P w = .ok (.slice B (n + m) cap) w' ∧ Appended w base e 1 v (n + m) (xs ++ List.replicate m z) w.heap.size (.slice B (n + m) cap) w' := by
  obtain ⟨i, hi, hz, hsize, hbytes⟩ := info_parts hinfo
  obtain ⟨v', w', hrun, h2, h3, h4⟩ := run_app_zeros w base t tn ty e i z k kn ht htn hi hz hsize hzc hone (by omega) v n xs hown m hlen hbase
  obtain ⟨B, cap, rfl⟩ := row_form h2
  exact ⟨B, cap, w', hrun, h2, grown_below h3 hbase (own_block_ge hown), h3, h4⟩
section
variable {w : World} {o : Oper} {a : Act} {K : Act → World → Prop} {Q : Exit → Act → World → Prop}
theorem wp_app {w : World} {o : Oper} {a : Act} {K : Act → World → Prop} {Q : Exit → Act → World → Prop} (s x : Operand) (t tn : TypeId) (ho : o.op = .call { callee := .builtin .append, args := #[s, x], argTypes := #[t, tn] })
    (v y v' : Value) (w' : World) (hs : a.eval s = v) (hx : a.eval x = y) (hr : (Builtin.append_ #[t, tn] o.type #[v, y]).run P w = .ok v' w') (h : K (a.put o.dst v') w') : o.wp P a w K Q := by
  unfold Oper.wp execOp
  simp only [ho, resolve, invoke, builtin, Sem.run_bind, Sem.run_pure, Result.andThen_ok, List.map_toArray, List.map_cons, List.map_nil, hs, hx, hr]
  exact h
/-- At a step of a region that draws its order: append(v, x...). -/
theorem step_app_src {ops : Array Oper} {E : Prop} (hgd : o.guard = none) (s x : Operand) (t e : TypeId) (ho : o.op = .call { callee := .builtin .append, args := #[s, x], argTypes := #[t, t] })
    (z : Value) (size bytes : Nat) (ht : P.underlying t = some (.slice e)) (hinfo : (P.info? e).map (fun i => (i.zero, i.size, i.bytes)) = some (some z, size, bytes)) (hzs : z.cells.size = size) (hsz : 0 < size) (hby : bytes ≤ 10000)
    (base : Nat) (v : Value) (n : Nat) (xs : List Value) (hs : a.eval s = v) (hown : w.ownsRow base e size v n xs)
    (A : Option Addr) (m c : Nat) (news : List Value) (hx : a.eval x = .slice A m c) (hl : news.length = m * size) (hnews : 0 < m → ∃ ad, A = some ad ∧ ∀ j u, news[j]? = some u → w.cell? (ad.add j) = some u) (h1 : ∀ u ∈ news, u.oneCell' = true)
    (hlen : n + m ≤ 4000000000) (hbase : base ≤ w.heap.size) (H : Nat) (hH : w.heap.size = H)
    (h : ∀ B cap w', Hid (Appended w base e size v (n + m) (xs ++ news) H (.slice B (n + m) cap) w') → K (a.put o.dst (.slice B (n + m) cap)) w') :
    if Region.wanted o (yielded ops a.tmps) = true then Oper.wp P o a w K Q else E := by
  subst hH
  have hw : Region.wanted o (yielded ops a.tmps) = true := by simp [Region.wanted, hgd]
  rw [if_pos hw]
  obtain ⟨B, cap, w', hr, hap⟩ := run_app_src (P := P) (w := w) t o.type e z size bytes ht hinfo hzs hsz hby base v n xs hown A m c news hl hnews h1 hlen hbase
  exact wp_app s x t t ho _ _ _ _ hs hx hr (h B cap w' (Lib.hid hap))
end
end
end Go.Proofs.YtdldochhondifaaGreatDoor
namespace Go.Proofs.YtdldochhondifaaGreatDoor
open Go

/-- Which of the worlds stands. -/
def Three (W0 W1 W2 W3 : World) (k1 k2 k3 m : Nat) (L : Array Bool) (w : World) : Prop :=
  (L.getD k2 false = true → L.getD k1 false = true) ∧ (L.getD k3 false = true → ∀ j, j < m → L.getD j false = true) ∧
  w = if L.getD k3 false = true then W3 else if L.getD k2 false = true then W2 else if L.getD k1 false = true then W1 else W0
section
variable {W0 W1 W2 W3 : World} {k1 k2 k3 m k : Nat} {L : Array Bool} {w : World}
theorem Three.start {n : Nat} : Three W0 W1 W2 W3 k1 k2 k3 m (Array.replicate n false) W0 := by
  have h : ∀ k, (Array.replicate n false).getD k false = false := fun k => by
    simp only [Array.getD_eq_getD_getElem?]
    rcases Nat.lt_or_ge k n with h | h
    · rw [Array.getElem?_eq_getElem (by simpa using h)]; simp
    · rw [Array.getElem?_eq_none (by simpa using h)]; rfl
  refine ⟨fun h1 => ?_, fun h1 => ?_, ?_⟩
  · rw [h] at h1; cases h1
  · rw [h] at h1; cases h1
  · rw [h, h, h]; rfl
theorem getD_keep {j : Nat} (h : L.getD j false = true) : (L.setIfInBounds k true).getD j false = true := by
  rcases Nat.lt_or_ge j L.size with hj | hj
  · simp only [Array.getD_eq_getD_getElem?] at *
    rw [Array.getElem?_setIfInBounds]
    split
    · rename_i h1
      subst h1
      simp [hj]
    · exact h
  · simp [Array.getD_eq_getD_getElem?, Array.getElem?_eq_none hj] at h
theorem Three.keep (h : Three W0 W1 W2 W3 k1 k2 k3 m L w) (k : Nat) (h1 : k ≠ k1) (h2 : k ≠ k2) (h3 : k ≠ k3) : Three W0 W1 W2 W3 k1 k2 k3 m (L.setIfInBounds k true) w := by
  obtain ⟨a, b, c⟩ := h
  refine ⟨?_, ?_, ?_⟩
  · rw [getD_set_ne L k k2 h2, getD_set_ne L k k1 h1]; exact a
  · rw [getD_set_ne L k k3 h3]
    exact fun h j hj => getD_keep (b h j hj)
  · rw [getD_set_ne L k k1 h1, getD_set_ne L k k2 h2, getD_set_ne L k k3 h3]; exact c
/-- So long as an operation ahead of the last is to come, the last has not been done. -/
theorem Three.pend (h : Three W0 W1 W2 W3 k1 k2 k3 m L w) (hk : L.getD k true = false) (hlt : k < m) : w = W0 ∨ w = W1 ∨ w = W2 := by
  obtain ⟨_, b, c⟩ := h
  have h3 : ¬ L.getD k3 false = true := fun h => by
    have := b h k hlt
    rw [getD_false L k hk] at this
    cases this
  rw [if_neg h3] at c
  split at c
  · exact .inr (.inr c)
  · split at c
    · exact .inr (.inl c)
    · exact .inl c
theorem Three.at1 (h : Three W0 W1 W2 W3 k1 k2 k3 m L w) (hk : L.getD k1 true = false) (h12 : k1 ≠ k2) (n3 : k1 ≠ k3) (h13 : k1 < m) : W0 = w ∧ Three W0 W1 W2 W3 k1 k2 k3 m (L.setIfInBounds k1 true) W1 := by
  obtain ⟨a, b, c⟩ := h
  have h1 := getD_false L k1 hk
  have h2 : ¬ L.getD k2 false = true := fun h => by rw [a h] at h1; cases h1
  have h3 : ¬ L.getD k3 false = true := fun h => by rw [b h k1 h13] at h1; cases h1
  rw [if_neg h3, if_neg h2, if_neg (by rw [h1]; simp)] at c
  refine ⟨c.symm, fun _ => getD_set_eq L k1 hk, ?_, ?_⟩
  · rw [getD_set_ne L k1 k3 n3]
    exact fun h => absurd h h3
  · rw [getD_set_ne L k1 k3 n3, getD_set_ne L k1 k2 h12, if_neg h3, if_neg h2, if_pos (getD_set_eq L k1 hk)]
theorem Three.at2 (h : Three W0 W1 W2 W3 k1 k2 k3 m L w) (hk : L.getD k2 true = false) (hd : L.getD k1 false = true) (n3 : k2 ≠ k3) (h23 : k2 < m) : W1 = w ∧ Three W0 W1 W2 W3 k1 k2 k3 m (L.setIfInBounds k2 true) W2 := by
  obtain ⟨a, b, c⟩ := h
  have h2 := getD_false L k2 hk
  have h3 : ¬ L.getD k3 false = true := fun h => by rw [b h k2 h23] at h2; cases h2
  rw [if_neg h3, if_neg (by rw [h2]; simp), if_pos hd] at c
  refine ⟨c.symm, fun _ => getD_keep hd, ?_, ?_⟩
  · rw [getD_set_ne L k2 k3 n3]
    exact fun h => absurd h h3
  · rw [getD_set_ne L k2 k3 n3, if_neg h3, if_pos (getD_set_eq L k2 hk)]
theorem Three.at3 (h : Three W0 W1 W2 W3 k1 k2 k3 m L w) (hk : L.getD k3 true = false) (hd : ∀ j, j < m → L.getD j false = true) (h1 : k1 < m) (h2 : k2 < m) : W2 = w ∧ Three W0 W1 W2 W3 k1 k2 k3 m (L.setIfInBounds k3 true) W3 := by
  obtain ⟨a, b, c⟩ := h
  have h3 := getD_false L k3 hk
  rw [if_neg (by rw [h3]; simp), if_pos (hd k2 h2)] at c
  refine ⟨c.symm, fun _ => getD_keep (hd k1 h1), fun _ j hj => getD_keep (hd j hj), ?_⟩
  rw [if_pos (getD_set_eq L k3 hk)]
theorem Three.end_ (h : Three W0 W1 W2 W3 k1 k2 k3 m L w) (hd : L.getD k3 false = true) : W3 = w := by
  obtain ⟨_, _, c⟩ := h
  rw [if_pos hd] at c
  exact c.symm
end
/-- The operations that one waits for. -/
theorem cover {o : Oper} {L : Array Bool} {m : Nat} (h : ((List.range m).all fun j => o.after.toList.any fun e => e.on == j && Region.binds .any e) = true)
    (hd : ∀ e, e ∈ o.after.toList → Region.binds .any e = true → L.getD e.on false = true) : ∀ j, j < m → L.getD j false = true := by
  intro j hj
  have h1 := List.all_eq_true.1 h j (List.mem_range.2 hj)
  obtain ⟨e, he, h2⟩ := List.any_eq_true.1 h1
  simp only [Bool.and_eq_true, beq_iff_eq] at h2
  have := hd e he h2.2
  rwa [h2.1] at this
theorem exec_app {P : Program} {w : World} {o : Oper} {a : Act} (s x : Operand) (t tn : TypeId) (ho : o.op = .call { callee := .builtin .append, args := #[s, x], argTypes := #[t, tn] })
    (v y v' : Value) (w' : World) (hs : a.eval s = v) (hx : a.eval x = y) (hr : (Builtin.append_ #[t, tn] o.type #[v, y]).run P w = .ok v' w') : (execOp a.eval o).run P w = .ok (.value v') w' := by
  unfold execOp
  simp only [ho, resolve, invoke, builtin, Sem.run_bind, Sem.run_pure, Result.andThen_ok, List.map_toArray, List.map_cons, List.map_nil, hs, hx, hr]
end Go.Proofs.YtdldochhondifaaGreatDoor
