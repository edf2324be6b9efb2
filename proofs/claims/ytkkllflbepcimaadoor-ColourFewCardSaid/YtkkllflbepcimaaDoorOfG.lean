/-
  For a seat without the references: what the later texts take from those on the references.
  Conditions: as the theorems say.
-/
import Derived.Test.YtkkllflbepcimaaDoorOfC
namespace Go.Proofs.YtkkllflbepcimaaDoor
open Go.RowKit

theorem evF_mem : ∀ (l : List InsU) (E : Int → Bool) (e : InsU × (Int → Bool)), e ∈ evF l.reverse E ↔ ∃ j x, l[j]? = some x ∧ e = (x, upTo (l.drop (j + 1)) E)
  | [], E, e => by simp [evF]
  | y :: l, E, e => by
    rw [List.reverse_cons, evF_snoc, List.mem_append, evF_mem l E e, backS_all]
    simp only [List.mem_singleton]
    constructor
    · rintro (⟨j, x, h1, h2⟩ | h)
      · exact ⟨j + 1, x, by simpa using h1, by simpa using h2⟩
      · exact ⟨0, y, rfl, by simpa using h⟩
    · rintro ⟨j, x, h1, h2⟩
      rcases j with _ | j
      · simp only [List.getElem?_cons_zero, Option.some.injEq] at h1
        subst h1
        exact .inr (by simpa using h2)
      · exact .inl ⟨j, x, by simpa using h1, by simpa using h2⟩
theorem occV_mem {v : Opd} {r : Int} : r ∈ occV v ↔ v.reg = true ∧ v.n = r := by
  unfold occV
  split
  · rename_i h
    simp only [List.mem_singleton, h, true_and]
    exact ⟨fun e => e.symm, fun e => e.symm⟩
  · rename_i h
    simp only [List.not_mem_nil, false_iff]
    exact fun e => h e.1
theorem rows_apart {w : World} {base base' : Nat} {e e' : TypeId} {s s' n n' : Nat} {v v' : Value} {xs xs' : List Value} (h : w.ownsRow base e s v n xs) (h' : w.ownsRow base' e' s' v' n' xs') (he : e ≠ e') (k : Nat) (hk : v.ownBlock = some k) : v'.ownBlock ≠ some k := by
  intro hk'
  rcases h.2 with ⟨rfl, _⟩ | ⟨g, cap, cur, rfl, _, hh, _⟩
  · cases hk
  · rcases h'.2 with ⟨rfl, _⟩ | ⟨g', cap', cur', rfl, _, hh', _⟩
    · cases hk'
    · simp only [Value.ownBlock, Option.some.injEq] at hk hk'
      subst hk; subst hk'
      rw [hh] at hh'
      cases hh'
      exact he rfl
theorem evAll_mem (bs : List BlkU) (e : InsU × (Int → Bool)) : e ∈ evAll bs bs.length ↔ ∃ (i j : Nat) (b : BlkU) (x : InsU), bs[i]? = some b ∧ b.list[j]? = some x ∧ e = (x, upTo (b.list.drop (j + 1)) (endU b (inU bs))) := by
  unfold evAll
  rw [List.take_length, List.mem_flatten]
  constructor
  · rintro ⟨_, hm, he⟩
    obtain ⟨b, hb, rfl⟩ := List.mem_map.1 hm
    obtain ⟨i, hi⟩ := List.getElem?_of_mem hb
    obtain ⟨j, x, hx, rfl⟩ := (evF_mem _ _ _).1 he
    exact ⟨i, j, b, x, hi, hx, rfl⟩
  · rintro ⟨i, j, b, x, hi, hx, rfl⟩
    exact ⟨evB bs b, List.mem_map_of_mem (List.mem_of_getElem? hi), (evF_mem _ _ _).2 ⟨j, x, hx, rfl⟩⟩
theorem asks_takes {ps : List Int} {regs : Int} {x : InsU} (h : InsOk ps regs x) (b : Int) : asksC x b = (decide (x.op ≠ 1) || !takesU x b) := by
  unfold asksC
  by_cases hop : x.op = 1
  · have hB : x.b = Opd.zero := h.noB (by rw [hop]; rfl)
    have hA := (h.plain (by omega)).2
    have e : takesU x b = (x.a.reg && decide (x.a.n = b)) := by
      unfold takesU
      rw [hA, hB, Bool.eq_iff_iff, decide_eq_true_eq, Bool.and_eq_true, decide_eq_true_eq, show occV Opd.zero = [] from rfl, show occVs [] = [] from rfl, List.append_nil, List.append_nil, occV_mem]
    rw [e]
    simp [hop]
  · simp [hop]
theorem below_drew {B : Nat} {a w : World} (h : Below B a w) : Below B a w.drew := ⟨h.os, h.tape, h.output, h.size, h.block⟩
end Go.Proofs.YtkkllflbepcimaaDoor
