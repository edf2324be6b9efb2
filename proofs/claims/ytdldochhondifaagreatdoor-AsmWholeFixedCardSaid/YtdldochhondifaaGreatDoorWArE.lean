/-
  Texts of the claim AsmWholeFixed (ArE): what each proves stands at its theorems.
  Conditions: as the theorems say.
-/
import Derived.Test.YtdldochhondifaaGreatDoorWArS
namespace Go.Proofs.YtdldochhondifaaGreatDoor
open Go.RowKit
attribute [local go_sem] Oper.semAt_some

/-- How far the lines of s have been told. -/
def LinesTo (s : List UInt8) (i : Nat) (cur : List UInt8) (outs : List (List UInt8)) : Prop :=
  cur.length ≤ i ∧ outs.length ≤ i ∧ ((i ≤ s.length ∧ outs ++ (splitC 10 cur (s.drop i)).map cleanS = linesL s) ∨ (i = s.length + 1 ∧ outs = linesL s))
theorem LinesTo.zero (s : List UInt8) : LinesTo s 0 [] [] := ⟨Nat.le_refl _, Nat.le_refl _, .inl ⟨Nat.zero_le _, rfl⟩⟩
theorem LinesTo.line {s : List UInt8} {i : Nat} {cur : List UInt8} {outs : List (List UInt8)} (h : LinesTo s i cur outs) (hi : i < s.length) (hb : s.getD i 0 = 10) : LinesTo s (i + 1) [] (outs ++ [cleanS cur]) := by
  obtain ⟨h1, h2, h3⟩ := h
  refine ⟨by simp, by rw [List.length_append]; simp; omega, .inl ⟨by omega, ?_⟩⟩
  rcases h3 with ⟨_, h3⟩ | ⟨h3, _⟩
  · rw [getD_drop0 s i hi, hb, splitC, if_pos rfl, List.map_cons] at h3
    rw [List.append_assoc]
    exact h3
  · omega
theorem LinesTo.last {s : List UInt8} {cur : List UInt8} {outs : List (List UInt8)} (h : LinesTo s s.length cur outs) : LinesTo s (s.length + 1) [] (outs ++ [cleanS cur]) := by
  obtain ⟨h1, h2, h3⟩ := h
  refine ⟨by simp, by rw [List.length_append]; simp; omega, .inr ⟨rfl, ?_⟩⟩
  rcases h3 with ⟨_, h3⟩ | ⟨h3, _⟩
  · rw [List.drop_length, splitC] at h3
    exact h3
  · omega
theorem LinesTo.done {s : List UInt8} {cur : List UInt8} {outs : List (List UInt8)} (h : LinesTo s (s.length + 1) cur outs) : outs = linesL s := by
  rcases h.2.2 with ⟨h3, _⟩ | ⟨_, h3⟩
  · omega
  · exact h3
/-- A fresh row of texts. -/
def TextsPost (B : Nat) (ss : List (List UInt8)) (e : Ending) (w' : World) : Prop := ∃ v, e = .returned v ∧ OwnS w' B v ss
theorem cut_len (l : List UInt8) : (cutS l).length ≤ l.length := (List.takeWhile_prefix _).length_le
end Go.Proofs.YtdldochhondifaaGreatDoor
namespace Go.Proofs.YtdldochhondifaaGreatDoor
open Go.RowKit
attribute [local go_sem] Oper.semAt_some

theorem OwnS.at_ {w : World} {base : Nat} {v : Value} {ss : List (List UInt8)} (h : OwnS w base v ss) {k : Nat} {x : List UInt8} (hk : ss[k]? = some x) :
    ∃ b c, v = .slice (some ⟨b, 0, none⟩) ss.length c ∧ base ≤ b ∧ b < w.heap.size ∧ w.cell? ⟨b, k, none⟩ = some (.string (mkS x)) := by
  have hlt := (List.getElem?_eq_some_iff.1 hk).1
  rcases h.2 with ⟨_, h0⟩ | ⟨g, cap, cur, e1, hg, hh, _⟩
  · omega
  · have hc := World.ownsRow.cells h (g := g) (by rw [e1]; rfl)
    have hadd : ∀ j, (⟨g, 0, none⟩ : Addr).add j = ⟨g, j, none⟩ := fun j => by unfold Addr.add; split <;> simp_all
    refine ⟨g, cap, e1, hg, (Array.getElem?_eq_some_iff.1 hh).1, ?_⟩
    have := hc k (.string (mkS x)) (by rw [List.getElem?_map, hk]; rfl)
    rwa [hadd] at this
theorem OwnS.row {w w' : World} {base B : Nat} {v : Value} {ss : List (List UInt8)} (h : OwnS w base v ss) (hb : Below B w w') (hv : ∀ k, v.ownBlock = some k → k < B) : OwnS w' base v ss := own_at h fun k hk => hb.block k (hv k hk)
theorem OwnS.len {w : World} {base : Nat} {v : Value} {ss : List (List UInt8)} (h : OwnS w base v ss) : ∃ A c, v = .slice A ss.length c := by
  rcases h.2 with ⟨rfl, h0⟩ | ⟨g, cap, cur, e1, _⟩
  · exact ⟨none, 0, by rw [h0]⟩
  · exact ⟨_, cap, e1⟩
/-- How far the parts of s have been told. -/
def PartsTo (s : List UInt8) (i : Nat) (cur : List UInt8) (outs : List (List UInt8)) : Prop :=
  cur.length ≤ i ∧ outs.length ≤ i ∧ (∀ b ∈ cur, b ∈ s) ∧ ((i ≤ s.length ∧ outs ++ (splitC 44 cur (s.drop i)).map trimS = (splitC 44 [] s).map trimS) ∨ (i = s.length + 1 ∧ outs = (splitC 44 [] s).map trimS))
theorem PartsTo.zero (s : List UInt8) : PartsTo s 0 [] [] := ⟨Nat.le_refl _, Nat.le_refl _, by simp, .inl ⟨Nat.zero_le _, rfl⟩⟩
theorem PartsTo.line {s : List UInt8} {i : Nat} {cur : List UInt8} {outs : List (List UInt8)} (h : PartsTo s i cur outs) (hi : i < s.length) (hb : s.getD i 0 = 44) : PartsTo s (i + 1) [] (outs ++ [trimS cur]) := by
  obtain ⟨h1, h2, h4, h3⟩ := h
  refine ⟨by simp, by rw [List.length_append]; simp; omega, by simp, .inl ⟨by omega, ?_⟩⟩
  rcases h3 with ⟨_, h3⟩ | ⟨h3, _⟩
  · rw [getD_drop0 s i hi, hb, splitC, if_pos rfl, List.map_cons] at h3
    rw [List.append_assoc]
    exact h3
  · omega
theorem PartsTo.last {s : List UInt8} {cur : List UInt8} {outs : List (List UInt8)} (h : PartsTo s s.length cur outs) : PartsTo s (s.length + 1) [] (outs ++ [trimS cur]) := by
  obtain ⟨h1, h2, h4, h3⟩ := h
  refine ⟨by simp, by rw [List.length_append]; simp; omega, by simp, .inr ⟨rfl, ?_⟩⟩
  rcases h3 with ⟨_, h3⟩ | ⟨h3, _⟩
  · rw [List.drop_length, splitC] at h3
    exact h3
  · omega
theorem PartsTo.done {s : List UInt8} {cur : List UInt8} {outs : List (List UInt8)} (h : PartsTo s (s.length + 1) cur outs) : outs = (splitC 44 [] s).map trimS := by
  rcases h.2.2.2 with ⟨h3, _⟩ | ⟨_, h3⟩
  · omega
  · exact h3
end Go.Proofs.YtdldochhondifaaGreatDoor
