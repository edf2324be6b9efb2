/-
  A region that draws its order and in which three operations write, the last of them behind all others: the stages of the world.
  Conditions: none.
-/
import Derived.Test.YtkiaffaieniebaaDoorLex
import Derived.Test.YtkiaffaieniebaaDoorRuZ
namespace Go.Proofs.YtkiaffaieniebaaDoor
open Go

/-- Which of the worlds stands. -/
def Three (W0 W1 W2 W3 : World) (k1 k2 k3 m : Nat) (L : Array Bool) (w : World) : Prop :=
  (L.getD k2 false = true → L.getD k1 false = true) ∧ (L.getD k3 false = true → ∀ j, j < m → L.getD j false = true) ∧
  w = if L.getD k3 false = true then W3 else if L.getD k2 false = true then W2 else if L.getD k1 false = true then W1 else W0
section
variable {W0 W1 W2 W3 : World} {k1 k2 k3 m k : Nat} {L : Array Bool} {w : World}
theorem Three.start {n : Nat} : Three W0 W1 W2 W3 k1 k2 k3 m (Array.replicate n false) W0 := by
  have h : ∀ k, (Array.replicate n false).getD k false = false := fun k => by
    simp only [Array.getD_eq_getD_getElem?]
    rcases Nat.lt_or_ge k n with h | h
    · rw [Array.getElem?_eq_getElem (by simpa using h)]; simp
    · rw [Array.getElem?_eq_none (by simpa using h)]; rfl
  refine ⟨fun h1 => ?_, fun h1 => ?_, ?_⟩
  · rw [h] at h1; cases h1
  · rw [h] at h1; cases h1
  · rw [h, h, h]; rfl
theorem getD_keep {j : Nat} (h : L.getD j false = true) : (L.setIfInBounds k true).getD j false = true := by
  rcases Nat.lt_or_ge j L.size with hj | hj
  · simp only [Array.getD_eq_getD_getElem?] at *
    rw [Array.getElem?_setIfInBounds]
    split
    · rename_i h1
      subst h1
      simp [hj]
    · exact h
  · simp [Array.getD_eq_getD_getElem?, Array.getElem?_eq_none hj] at h
theorem Three.keep (h : Three W0 W1 W2 W3 k1 k2 k3 m L w) (k : Nat) (h1 : k ≠ k1) (h2 : k ≠ k2) (h3 : k ≠ k3) : Three W0 W1 W2 W3 k1 k2 k3 m (L.setIfInBounds k true) w := by
  obtain ⟨a, b, c⟩ := h
  refine ⟨?_, ?_, ?_⟩
  · rw [getD_set_ne L k k2 h2, getD_set_ne L k k1 h1]; exact a
  · rw [getD_set_ne L k k3 h3]
    exact fun h j hj => getD_keep (b h j hj)
  · rw [getD_set_ne L k k1 h1, getD_set_ne L k k2 h2, getD_set_ne L k k3 h3]; exact c
/-- So long as an operation ahead of the last is to come, the last has not been done. -/
theorem Three.pend (h : Three W0 W1 W2 W3 k1 k2 k3 m L w) (hk : L.getD k true = false) (hlt : k < m) : w = W0 ∨ w = W1 ∨ w = W2 := by
  obtain ⟨_, b, c⟩ := h
  have h3 : ¬ L.getD k3 false = true := fun h => by
    have := b h k hlt
    rw [getD_false L k hk] at this
    cases this
  rw [if_neg h3] at c
  split at c
  · exact .inr (.inr c)
  · split at c
    · exact .inr (.inl c)
    · exact .inl c
theorem Three.at1 (h : Three W0 W1 W2 W3 k1 k2 k3 m L w) (hk : L.getD k1 true = false) (h12 : k1 ≠ k2) (n3 : k1 ≠ k3) (h13 : k1 < m) : W0 = w ∧ Three W0 W1 W2 W3 k1 k2 k3 m (L.setIfInBounds k1 true) W1 := by
  obtain ⟨a, b, c⟩ := h
  have h1 := getD_false L k1 hk
  have h2 : ¬ L.getD k2 false = true := fun h => by rw [a h] at h1; cases h1
  have h3 : ¬ L.getD k3 false = true := fun h => by rw [b h k1 h13] at h1; cases h1
  rw [if_neg h3, if_neg h2, if_neg (by rw [h1]; simp)] at c
  refine ⟨c.symm, fun _ => getD_set_eq L k1 hk, ?_, ?_⟩
  · rw [getD_set_ne L k1 k3 n3]
    exact fun h => absurd h h3
  · rw [getD_set_ne L k1 k3 n3, getD_set_ne L k1 k2 h12, if_neg h3, if_neg h2, if_pos (getD_set_eq L k1 hk)]
theorem Three.at2 (h : Three W0 W1 W2 W3 k1 k2 k3 m L w) (hk : L.getD k2 true = false) (hd : L.getD k1 false = true) (n3 : k2 ≠ k3) (h23 : k2 < m) : W1 = w ∧ Three W0 W1 W2 W3 k1 k2 k3 m (L.setIfInBounds k2 true) W2 := by
  obtain ⟨a, b, c⟩ := h
  have h2 := getD_false L k2 hk
  have h3 : ¬ L.getD k3 false = true := fun h => by rw [b h k2 h23] at h2; cases h2
  rw [if_neg h3, if_neg (by rw [h2]; simp), if_pos hd] at c
  refine ⟨c.symm, fun _ => getD_keep hd, ?_, ?_⟩
  · rw [getD_set_ne L k2 k3 n3]
    exact fun h => absurd h h3
  · rw [getD_set_ne L k2 k3 n3, if_neg h3, if_pos (getD_set_eq L k2 hk)]
theorem Three.at3 (h : Three W0 W1 W2 W3 k1 k2 k3 m L w) (hk : L.getD k3 true = false) (hd : ∀ j, j < m → L.getD j false = true) (h1 : k1 < m) (h2 : k2 < m) : W2 = w ∧ Three W0 W1 W2 W3 k1 k2 k3 m (L.setIfInBounds k3 true) W3 := by
  obtain ⟨a, b, c⟩ := h
  have h3 := getD_false L k3 hk
  rw [if_neg (by rw [h3]; simp), if_pos (hd k2 h2)] at c
  refine ⟨c.symm, fun _ => getD_keep (hd k1 h1), fun _ j hj => getD_keep (hd j hj), ?_⟩
  rw [if_pos (getD_set_eq L k3 hk)]
theorem Three.end_ (h : Three W0 W1 W2 W3 k1 k2 k3 m L w) (hd : L.getD k3 false = true) : W3 = w := by
  obtain ⟨_, _, c⟩ := h
  rw [if_pos hd] at c
  exact c.symm
end
/-- The operations that one waits for. -/
theorem cover {o : Oper} {L : Array Bool} {m : Nat} (h : ((List.range m).all fun j => o.after.toList.any fun e => e.on == j && Region.binds .any e) = true)
    (hd : ∀ e, e ∈ o.after.toList → Region.binds .any e = true → L.getD e.on false = true) : ∀ j, j < m → L.getD j false = true := by
  intro j hj
  have h1 := List.all_eq_true.1 h j (List.mem_range.2 hj)
  obtain ⟨e, he, h2⟩ := List.any_eq_true.1 h1
  simp only [Bool.and_eq_true, beq_iff_eq] at h2
  have := hd e he h2.2
  rwa [h2.1] at this
theorem exec_app {P : Program} {w : World} {o : Oper} {a : Act} (s x : Operand) (t tn : TypeId) (ho : o.op = .call { callee := .builtin .append, args := #[s, x], argTypes := #[t, tn] })
    (v y v' : Value) (w' : World) (hs : a.eval s = v) (hx : a.eval x = y) (hr : (Builtin.append_ #[t, tn] o.type #[v, y]).run P w = .ok v' w') : (execOp a.eval o).run P w = .ok (.value v') w' := by
  unfold execOp
  simp only [ho, resolve, invoke, builtin, Sem.run_bind, Sem.run_pure, Result.andThen_ok, List.map_toArray, List.map_cons, List.map_nil, hs, hx, hr]
end Go.Proofs.YtkiaffaieniebaaDoor
