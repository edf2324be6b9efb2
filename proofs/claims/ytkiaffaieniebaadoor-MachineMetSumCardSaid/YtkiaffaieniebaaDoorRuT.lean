/-
  Running the image of raw numbers; where the statement of a run has its operations; the first numbers of a slice.
  Conditions: as the theorems say.
-/
import Derived.Test.YtkiaffaieniebaaDoorRuU
import Derived.Test.YtkiaffaieniebaaDoorRuW
namespace Go.Proofs.YtkiaffaieniebaaDoor
open Go.RowKit

/-- Running the image of raw numbers, in every later world. -/
theorem Run_img {la lb lc : List Int} {k : Nat} {gv rv : Value} {W : World} (ha : ∀ x ∈ la, I64 x) (hb : ∀ x ∈ lb, I64 x) (hc : ∀ x ∈ lc, I64 x) (hk : k ≤ 1000)
    (hg : GlobsAt W W.heap.size gv kGlobs) (hr : RoutsAt W W.heap.size rv (imgR la lb lc k)) (ht : Tab W) {xs : List Int} (hx : xs.length ≤ 30) {base : Nat} {iv : Value} {V : World} {n : Nat} (hn : n ≤ 900000)
    (hV : Below W.heap.size W V) (hi : V.ownsRow base 3 1 iv xs.length (intV xs)) :
    Calls Tryd.prog 14 #[.agg #[gv, rv], iv, .int .i64 (n : Int)] V fun e w' => ∃ ov, e = .returned (runV (runS (imgC la lb lc k) (beginS kGlobs xs) n).told ov (0, 0)) ∧
      w'.ownsRow V.heap.size 3 1 ov (runS (imgC la lb lc k) (beginS kGlobs xs) n).told.out.length (intV (runS (imgC la lb lc k) (beginS kGlobs xs) n).told.out) ∧ Below V.heap.size V w' := by
  obtain ⟨q1, q2, _⟩ := img_run ha hb hc hk hx hn
  have hcall := Run_any gv rv iv kGlobs (imgR la lb lc k) xs (n : Int) V ((hg.below hV (Nat.le_refl _)).more hV.size) ((hr.below hV (Nat.le_refl _)).more hV.size) (row_ints hi rfl) kGlobs_ok (img_rok ha hb hc hk) (ht.own hV)
  rw [q1, q2] at hcall
  refine hcall.mono ?_
  rintro e w' ⟨ov, rfl, h1, h2⟩
  exact ⟨ov, rfl, h1, h2⟩
def ix3 : Ix := ⟨2, 4, 5, 6, 7, 8, 9, 10, 11⟩
def pv3 (a b c : Value) : Nat → Option Value
  | 0 => some a
  | 1 => some b
  | 3 => some c
  | _ => none
theorem ix3_no (a b c : Value) : ∀ j ∈ ix3.all, pv3 a b c j = none := by
  intro j hj
  simp only [ix3, Ix.all, List.mem_cons, List.not_mem_nil, or_false] at hj
  rcases hj with rfl | rfl | rfl | rfl | rfl | rfl | rfl | rfl | rfl <;> rfl
theorem ix3_apart : ix3.all.Nodup := by decide
def ix4 : Ix := ⟨2, 7, 8, 9, 10, 11, 12, 13, 14⟩
def pv4 (a b c d e f : Value) : Nat → Option Value
  | 0 => some a
  | 1 => some b
  | 3 => some c
  | 4 => some d
  | 5 => some e
  | 6 => some f
  | _ => none
theorem ix4_no (a b c d e f : Value) : ∀ j ∈ ix4.all, pv4 a b c d e f j = none := by
  intro j hj
  simp only [ix4, Ix.all, List.mem_cons, List.not_mem_nil, or_false] at hj
  rcases hj with rfl | rfl | rfl | rfl | rfl | rfl | rfl | rfl | rfl <;> rfl
theorem ix4_apart : ix4.all.Nodup := by decide
theorem TwoRun.val {x : Ix} {pv : Nat → Option Value} {base : Nat} {w0 : World} {xs : List Int} {s : Mch} {f : Int × Int} {σ : Nat → Option Value} {w : World} (h : TwoRun x pv base w0 xs s f σ w) {j : Nat} {u v : Value} (hu : σ j = some u) (hv : pv j = some v) : u = v := by
  obtain ⟨ov, g1, g2, h1, hz, h2, _⟩ := h
  exact h2 j v hv u hu
theorem IntsAt.take {w : World} {B l c k : Nat} {A : Option Addr} {xs : List Int} (h : IntsAt w B (.slice A l c) xs) (hk : k ≤ l) : IntsAt w B (.slice A k c) (xs.take k) := by
  obtain ⟨A', c', e, h1, h2, h3⟩ := h
  have hl : xs.length = l := by cases e; rfl
  cases e
  refine ⟨A, c, by rw [List.length_take, Nat.min_eq_left (by omega)], by rw [List.length_take]; omega, h2, fun hp => ?_⟩
  rw [List.length_take] at hp
  obtain ⟨b, off, e1, e2, e3⟩ := h3 (by omega)
  refine ⟨b, off, e1, e2, fun j x hj => e3 j x ?_⟩
  rw [List.getElem?_take] at hj
  split at hj
  · exact hj
  · cases hj
end Go.Proofs.YtkiaffaieniebaaDoor
