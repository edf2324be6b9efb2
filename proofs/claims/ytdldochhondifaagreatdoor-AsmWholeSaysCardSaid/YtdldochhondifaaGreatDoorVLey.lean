/-
  Texts of the claim AsmWholeSays (Ley): what each proves stands at its theorems.
  Conditions: as the theorems say.
-/
import Derived.Lib.AppendZeros
import Derived.Deep.AppendLies
import Derived.Test.YtdldochhondifaaGreatDoorVKitD
import Derived.Test.YtdldochhondifaaGreatDoorVIng
namespace Go.Proofs.YtdldochhondifaaGreatDoor
open Go.RowKit

section
variable {P : Program}
theorem row_form {w : World} {base : Nat} {e : TypeId} {size : Nat} {v : Value} {n : Nat} {xs : List Value} (h : w.ownsRow base e size v n xs) : ∃ A cap, v = .slice A n cap := by
  rcases h.2 with ⟨rfl, rfl⟩ | ⟨g, cap, cur, e, _⟩
  · exact ⟨none, 0, rfl⟩
  · exact ⟨_, cap, e⟩
/-- append(v, x...), x whatever slice: the run. -/
theorem run_app_src {w : World} (t ty e : TypeId)
    (z : Value) (size bytes : Nat) (ht : P.underlying t = some (.slice e)) (hinfo : (P.info? e).map (fun i => (i.zero, i.size, i.bytes)) = some (some z, size, bytes)) (hzs : z.cells.size = size) (hsz : 0 < size) (hby : bytes ≤ 10000)
    (base : Nat) (v : Value) (n : Nat) (xs : List Value) (hown : w.ownsRow base e size v n xs)
    (A : Option Addr) (m c : Nat) (news : List Value) (hl : news.length = m * size) (hnews : 0 < m → ∃ ad, A = some ad ∧ ∀ j u, news[j]? = some u → w.cell? (ad.add j) = some u) (h1 : ∀ u ∈ news, u.oneCell' = true)
    (hlen : n + m ≤ 4000000000) (hbase : base ≤ w.heap.size) :
    ∃ B cap w', (Builtin.append_ #[t, t] ty #[v, .slice A m c]).run P w = .ok (.slice B (n + m) cap) w' ∧ Appended w base e size v (n + m) (xs ++ news) w.heap.size (.slice B (n + m) cap) w' := by
  obtain ⟨i, hi, hz, hsize, hbytes⟩ := info_parts hinfo
  have key : ∃ v' w', (Builtin.append_ #[t, t] ty #[v, .slice A m c]).run P w = .ok v' w' ∧ Appended w base e size v (n + m) (xs ++ news) w.heap.size v' w' := by
    have some_case : ∀ ad : Addr, A = some ad → (∀ j u, news[j]? = some u → w.cell? (ad.add j) = some u) → ∃ v' w', (Builtin.append_ #[t, t] ty #[v, .slice A m c]).run P w = .ok v' w' ∧ Appended w base e size v (n + m) (xs ++ news) w.heap.size v' w' := by
      intro ad hA hc
      subst hA
      have hmul : (n + m) * bytes ≤ 140737488355328 := Nat.le_trans (Nat.mul_le_mul hlen hby) (by decide)
      obtain ⟨v', w', hrun, h2, h3, _, h5⟩ := run_append_own_at (P := P) w base t ty e i z size bytes ht hi hz hsize hbytes hzs hsz v n xs hown ad m c news hl hc h1 (by unfold maxLen; omega) hmul hbase
      exact ⟨v', w', hrun, h2, grown_below h3 hbase (own_block_ge hown), h3, h5⟩
    rcases Nat.eq_zero_or_pos m with h0 | h0
    · subst h0
      have hn : news = [] := List.eq_nil_of_length_eq_zero (by simpa using hl)
      subst hn
      rcases A with _ | ad
      · exact ⟨v, w, run_app_nil w base t _ e i size ht hi v n xs hown c, by simpa using hown, Below.refl _ _, World.grownBy.refl w _, .inl rfl⟩
      · exact some_case ad rfl fun j u hu => by simp at hu
    · obtain ⟨ad, rfl, hc⟩ := hnews h0
      exact some_case ad rfl hc
  obtain ⟨v', w', hrun, hap⟩ := key
  obtain ⟨B, cap, rfl⟩ := row_form hap.1
  exact ⟨B, cap, w', hrun, hap⟩
end
end Go.Proofs.YtdldochhondifaaGreatDoor
namespace Go.Proofs.YtdldochhondifaaGreatDoor
open Go

/-- Which of the worlds stands. -/
def Three (W0 W1 W2 W3 : World) (k1 k2 k3 m : Nat) (L : Array Bool) (w : World) : Prop :=
  (L.getD k2 false = true → L.getD k1 false = true) ∧ (L.getD k3 false = true → ∀ j, j < m → L.getD j false = true) ∧
  w = if L.getD k3 false = true then W3 else if L.getD k2 false = true then W2 else if L.getD k1 false = true then W1 else W0
section
variable {W0 W1 W2 W3 : World} {k1 k2 k3 m k : Nat} {L : Array Bool} {w : World}
theorem Three.start {n : Nat} : Three W0 W1 W2 W3 k1 k2 k3 m (Array.replicate n false) W0 := by
  have h : ∀ k, (Array.replicate n false).getD k false = false := fun k => by
    simp only [Array.getD_eq_getD_getElem?]
    rcases Nat.lt_or_ge k n with h | h
    · rw [Array.getElem?_eq_getElem (by simpa using h)]; simp
    · rw [Array.getElem?_eq_none (by simpa using h)]; rfl
  refine ⟨fun h1 => ?_, fun h1 => ?_, ?_⟩
  · rw [h] at h1; cases h1
  · rw [h] at h1; cases h1
  · rw [h, h, h]; rfl
theorem getD_keep {j : Nat} (h : L.getD j false = true) : (L.setIfInBounds k true).getD j false = true := by
  rcases Nat.lt_or_ge j L.size with hj | hj
  · simp only [Array.getD_eq_getD_getElem?] at *
    rw [Array.getElem?_setIfInBounds]
    split
    · rename_i h1
      subst h1
      simp [hj]
    · exact h
  · simp [Array.getD_eq_getD_getElem?, Array.getElem?_eq_none hj] at h
theorem Three.keep (h : Three W0 W1 W2 W3 k1 k2 k3 m L w) (k : Nat) (h1 : k ≠ k1) (h2 : k ≠ k2) (h3 : k ≠ k3) : Three W0 W1 W2 W3 k1 k2 k3 m (L.setIfInBounds k true) w := by
  obtain ⟨a, b, c⟩ := h
  refine ⟨?_, ?_, ?_⟩
  · rw [getD_set_ne L k k2 h2, getD_set_ne L k k1 h1]; exact a
  · rw [getD_set_ne L k k3 h3]
    exact fun h j hj => getD_keep (b h j hj)
  · rw [getD_set_ne L k k1 h1, getD_set_ne L k k2 h2, getD_set_ne L k k3 h3]; exact c
/-- So long as an operation ahead of the last is to come, the last has not been done. -/
theorem Three.pend (h : Three W0 W1 W2 W3 k1 k2 k3 m L w) (hk : L.getD k true = false) (hlt : k < m) : w = W0 ∨ w = W1 ∨ w = W2 := by
  obtain ⟨_, b, c⟩ := h
  have h3 : ¬ L.getD k3 false = true := fun h => by
    have := b h k hlt
    rw [getD_false L k hk] at this
    cases this
  rw [if_neg h3] at c
  split at c
  · exact .inr (.inr c)
  · split at c
    · exact .inr (.inl c)
    · exact .inl c
theorem Three.at1 (h : Three W0 W1 W2 W3 k1 k2 k3 m L w) (hk : L.getD k1 true = false) (h12 : k1 ≠ k2) (n3 : k1 ≠ k3) (h13 : k1 < m) : W0 = w ∧ Three W0 W1 W2 W3 k1 k2 k3 m (L.setIfInBounds k1 true) W1 := by
  obtain ⟨a, b, c⟩ := h
  have h1 := getD_false L k1 hk
  have h2 : ¬ L.getD k2 false = true := fun h => by rw [a h] at h1; cases h1
  have h3 : ¬ L.getD k3 false = true := fun h => by rw [b h k1 h13] at h1; cases h1
  rw [if_neg h3, if_neg h2, if_neg (by rw [h1]; simp)] at c
  refine ⟨c.symm, fun _ => getD_set_eq L k1 hk, ?_, ?_⟩
  · rw [getD_set_ne L k1 k3 n3]
    exact fun h => absurd h h3
  · rw [getD_set_ne L k1 k3 n3, getD_set_ne L k1 k2 h12, if_neg h3, if_neg h2, if_pos (getD_set_eq L k1 hk)]
theorem Three.at2 (h : Three W0 W1 W2 W3 k1 k2 k3 m L w) (hk : L.getD k2 true = false) (hd : L.getD k1 false = true) (n3 : k2 ≠ k3) (h23 : k2 < m) : W1 = w ∧ Three W0 W1 W2 W3 k1 k2 k3 m (L.setIfInBounds k2 true) W2 := by
  obtain ⟨a, b, c⟩ := h
  have h2 := getD_false L k2 hk
  have h3 : ¬ L.getD k3 false = true := fun h => by rw [b h k2 h23] at h2; cases h2
  rw [if_neg h3, if_neg (by rw [h2]; simp), if_pos hd] at c
  refine ⟨c.symm, fun _ => getD_keep hd, ?_, ?_⟩
  · rw [getD_set_ne L k2 k3 n3]
    exact fun h => absurd h h3
  · rw [getD_set_ne L k2 k3 n3, if_neg h3, if_pos (getD_set_eq L k2 hk)]
theorem Three.at3 (h : Three W0 W1 W2 W3 k1 k2 k3 m L w) (hk : L.getD k3 true = false) (hd : ∀ j, j < m → L.getD j false = true) (h1 : k1 < m) (h2 : k2 < m) : W2 = w ∧ Three W0 W1 W2 W3 k1 k2 k3 m (L.setIfInBounds k3 true) W3 := by
  obtain ⟨a, b, c⟩ := h
  have h3 := getD_false L k3 hk
  rw [if_neg (by rw [h3]; simp), if_pos (hd k2 h2)] at c
  refine ⟨c.symm, fun _ => getD_keep (hd k1 h1), fun _ j hj => getD_keep (hd j hj), ?_⟩
  rw [if_pos (getD_set_eq L k3 hk)]
theorem Three.end_ (h : Three W0 W1 W2 W3 k1 k2 k3 m L w) (hd : L.getD k3 false = true) : W3 = w := by
  obtain ⟨_, _, c⟩ := h
  rw [if_pos hd] at c
  exact c.symm
end
/-- The operations that one waits for. -/
theorem cover {o : Oper} {L : Array Bool} {m : Nat} (h : ((List.range m).all fun j => o.after.toList.any fun e => e.on == j && Region.binds .any e) = true)
    (hd : ∀ e, e ∈ o.after.toList → Region.binds .any e = true → L.getD e.on false = true) : ∀ j, j < m → L.getD j false = true := by
  intro j hj
  have h1 := List.all_eq_true.1 h j (List.mem_range.2 hj)
  obtain ⟨e, he, h2⟩ := List.any_eq_true.1 h1
  simp only [Bool.and_eq_true, beq_iff_eq] at h2
  have := hd e he h2.2
  rwa [h2.1] at this
theorem exec_app {P : Program} {w : World} {o : Oper} {a : Act} (s x : Operand) (t tn : TypeId) (ho : o.op = .call { callee := .builtin .append, args := #[s, x], argTypes := #[t, tn] })
    (v y v' : Value) (w' : World) (hs : a.eval s = v) (hx : a.eval x = y) (hr : (Builtin.append_ #[t, tn] o.type #[v, y]).run P w = .ok v' w') : (execOp a.eval o).run P w = .ok (.value v') w' := by
  unfold execOp
  simp only [ho, resolve, invoke, builtin, Sem.run_bind, Sem.run_pure, Result.andThen_ok, List.map_toArray, List.map_cons, List.map_nil, hs, hx, hr]
end Go.Proofs.YtdldochhondifaaGreatDoor
