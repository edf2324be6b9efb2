/-
  The law ClashTurns.
  Conditions: the unit's numbers are Go's.
-/
import Derived.Test.YtiknhfbkphoceaaGreatDoorOfG
import Derived.Test.YtiknhfbkphoceaaGreatDoorUoB
namespace Go.Proofs.YtiknhfbkphoceaaGreatDoor
open Go.RowKit

def hasN (xs : List Int) (x : Int) : Bool := xs.any fun y => y == x
theorem hasN_iff {xs : List Int} {x : Int} : hasN xs x = true ↔ x ∈ xs := by
  unfold hasN
  rw [List.any_eq_true]
  constructor
  · rintro ⟨y, hy, he⟩
    rwa [← eq_of_beq he]
  · intro h
    exact ⟨x, h, by simp⟩
theorem RowsOwn.form {w : World} {base : Nat} {v : Value} {xss : List (List Int)} (h : RowsOwn w base v xss) : ∃ A c, v = .slice A xss.length c := by
  obtain ⟨rs, h1, h2, _⟩ := h
  obtain ⟨A, c, e⟩ := row_form h2
  exact ⟨A, c, by rw [e, h1]⟩
theorem RowsOwn.at_ {w : World} {base : Nat} {A : Option Addr} {n c : Nat} {xss : List (List Int)} (h : RowsOwn w base (.slice A n c) xss) {r : Nat} (hr : r < xss.length) :
    ∃ g0 rA rc xs, A = some ⟨g0, 0, none⟩ ∧ xss[r]? = some xs ∧ w.cell? ⟨g0, r, none⟩ = some (.slice rA xs.length rc) ∧ IntsAt w w.heap.size (.slice rA xs.length rc) xs := by
  obtain ⟨rs, h1, h2, h3⟩ := h
  obtain ⟨g0, cap, e, _⟩ := World.ownsRow.form h2 (by omega)
  injection e with e1 e2 e3
  subst e1; subst e2; subst e3
  obtain ⟨u, hu⟩ : ∃ u, rs[r]? = some u := ⟨_, List.getElem?_eq_getElem (by omega)⟩
  obtain ⟨xs, hx⟩ : ∃ xs, xss[r]? = some xs := ⟨_, List.getElem?_eq_getElem hr⟩
  have ho := h3 r u xs hu hx
  obtain ⟨rA, rc, rfl⟩ := row_form ho
  exact ⟨g0, rA, rc, xs, rfl, hx, row_cell h2 hu, OwnInts.ints ho⟩
/-- A block that leads nowhere: what is live at its end. -/
def onS (b : BlkU) (r : Int) : Bool := decide (r ∈ occV b.on)
theorem end_none {b : BlkU} (h : b.to = []) (I : Nat → Int → Bool) : endU b I = onS b := by
  funext r
  unfold endU onS
  rw [h]
  simp
theorem evAll_one {b : BlkU} (h : b.to = []) : evAll [b] 1 = evF b.list.reverse (onS b) := by
  unfold evAll evB
  simp [end_none h]
theorem inU_one {b : BlkU} (h : b.to = []) (r : Int) : inU [b] 0 r = upTo b.list (onS b) r := by
  rw [inU_eq, stepU_at (b := b) rfl, end_none h]
theorem ofS_one {b : BlkU} (h : b.to = []) : ofS [b] = clashS (fun x y => decide (x ≠ y) && (upTo b.list (onS b) x && upTo b.list (onS b) y)) (evF b.list.reverse (onS b)) := by
  unfold ofS
  rw [show [b].length = 1 from rfl, evAll_one h]
  congr 1
  funext x y
  unfold beginS
  rw [inU_one h, inU_one h]
theorem twin_rows : ofF [] twinFs 0 = [[1], [0], []] := by
  unfold ofF
  rw [twin_clash]
  simp only [ne_eq, not_true_eq_false, if_false]
  show ofRows ⟨mainName, 0, 3, [twinB]⟩ = _
  unfold ofRows
  simp only
  rw [ofS_one rfl]
  decide
theorem ofS_turn (bs : List BlkU) (a b : Int) : ofS bs a b = ofS bs b a := by
  unfold ofS clashS beginS
  rw [show decide (a ≠ b) = decide (b ≠ a) by simp [ne_comm]]
  congr 1
  · rw [Bool.and_comm (inU bs 0 a)]
  · congr 2
    funext e
    rw [Bool.or_comm]
theorem ofS_self (bs : List BlkU) (a : Int) : ofS bs a a = false := by
  unfold ofS clashS beginS
  simp
theorem pairwise_before {l : List Int} (h : l.Pairwise (· < ·)) {i j : Nat} {x y : Int} (hi : l[i]? = some x) (hj : l[j]? = some y) (hij : i < j) : x < y := by
  obtain ⟨i1, rfl⟩ := List.getElem?_eq_some_iff.1 hi
  obtain ⟨j1, rfl⟩ := List.getElem?_eq_some_iff.1 hj
  exact List.pairwise_iff_getElem.1 h i j i1 j1 hij
end Go.Proofs.YtiknhfbkphoceaaGreatDoor
