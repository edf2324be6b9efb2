/-
  Several texts in one (KtA KtB KtC): what each proves stands at its theorems.
  Conditions: as the theorems say.
-/
import Derived.Test.YtdldochhondifaaDoorKtP
import Derived.Test.YtdldochhondifaaDoorKitD
import Derived.Deep.DeepCutAuto
import Derived.Deep.RegionHeld3
import Derived.Deep.DrawnRows
import Derived.Deep.AppendLies
namespace Go.Proofs.YtdldochhondifaaDoor
open Go.RowKit

theorem tmod_neg (a n : Int) (hn : 0 < n) (ha : a < 0) : (a.tmod n < 0 ∧ a.tmod n + n = a % n ∧ -n < a.tmod n) ∨ (a.tmod n = 0 ∧ a % n = 0) := by
  have h := @Int.tmod_eq_emod a n
  have h1 := Int.emod_nonneg a (show n ≠ 0 by omega)
  have h2 := Int.emod_lt_of_pos a hn
  by_cases hd : n ∣ a
  · right
    rw [if_pos (.inr hd)] at h
    have := Int.emod_eq_zero_of_dvd hd
    omega
  · left
    rw [if_neg (by rintro (h | h); omega; exact hd h)] at h
    have h3 : (n.natAbs : Int) = n := by omega
    rw [h3] at h
    omega
/-- The shapes that there are. -/
theorem shapes (op : Int) (h : isOp op = true) : ∃ d a b : Bool, ∃ n t w r : Bool, hasS (fldS op) 100 = d ∧ hasS (fldS op) 97 = a ∧ hasS (fldS op) 98 = b ∧ hasS (fldS op) 110 = n ∧ hasS (fldS op) 116 = t ∧ hasS (fldS op) 119 = w ∧ hasS (fldS op) 114 = r ∧
    (d, a, b, n, t, w, r) ∈ [(true, true, true, false, false, false, false), (true, true, false, true, false, false, false), (false, true, true, false, true, false, false), (true, false, false, true, false, false, false), (true, true, false, false, false, false, false),
      (false, true, true, true, false, false, false), (true, false, false, false, false, true, false), (false, true, false, false, false, true, false), (false, false, false, false, true, false, false), (false, true, false, false, true, false, false),
      (false, false, false, false, false, false, true), (false, false, false, false, false, false, false), (true, false, false, false, false, false, false), (false, true, false, false, false, false, false)] := by
  rw [isOp_iff] at h
  refine ⟨_, _, _, _, _, _, _, rfl, rfl, rfl, rfl, rfl, rfl, rfl, ?_⟩
  have key : ∀ k : Fin 48, 1 ≤ k.val → (hasS (fldS (k.val : Int)) 100, hasS (fldS (k.val : Int)) 97, hasS (fldS (k.val : Int)) 98, hasS (fldS (k.val : Int)) 110, hasS (fldS (k.val : Int)) 116, hasS (fldS (k.val : Int)) 119, hasS (fldS (k.val : Int)) 114) ∈
      [(true, true, true, false, false, false, false), (true, true, false, true, false, false, false), (false, true, true, false, true, false, false), (true, false, false, true, false, false, false), (true, true, false, false, false, false, false),
      (false, true, true, true, false, false, false), (true, false, false, false, false, true, false), (false, true, false, false, false, true, false), (false, false, false, false, true, false, false), (false, true, false, false, true, false, false),
      (false, false, false, false, false, false, true), (false, false, false, false, false, false, false), (true, false, false, false, false, false, false), (false, true, false, false, false, false, false)] := by decide +kernel
  have := key ⟨op.toNat, by omega⟩ (by simp; omega)
  simp only [show ((op.toNat : Nat) : Int) = op from by omega] at this
  exact this
end Go.Proofs.YtdldochhondifaaDoor
namespace Go.Proofs.YtdldochhondifaaDoor
open Go.RowKit

/-- The instruction under way: block g holds it; nothing below B has changed. -/
def MacNow (B gr g : Nat) (w : World) (op d a b n : Int) (wx : World) : Prop := Hid (Blk wx gr 57 #[.int .i64 0, .int .i64 0, .int .i64 0, .int .i64 0, .int .i64 0]) ∧ Hid (Blk wx g 57 #[.int .i64 op, .int .i64 d, .int .i64 a, .int .i64 b, .int .i64 n]) ∧ Hid (Below B w wx)
theorem MacNow.put1 {B gr g : Nat} {w wx : World} {op d a b n : Int} (h : MacNow B gr g w op d a b n wx) (hne : gr ≠ g) (hB : B ≤ g) (x : Int) : MacNow B gr g w op x a b n (wx.setCell ⟨g, 1, none⟩ (.int .i64 x)) :=
  ⟨Lib.hid (h.1.out.far (p := ⟨g, 1, none⟩) hne _), Lib.hid (h.2.1.out.set_ 1 _), Lib.hid (h.2.2.out.setCell hB _)⟩
theorem MacNow.put2 {B gr g : Nat} {w wx : World} {op d a b n : Int} (h : MacNow B gr g w op d a b n wx) (hne : gr ≠ g) (hB : B ≤ g) (x : Int) : MacNow B gr g w op d x b n (wx.setCell ⟨g, 2, none⟩ (.int .i64 x)) :=
  ⟨Lib.hid (h.1.out.far (p := ⟨g, 2, none⟩) hne _), Lib.hid (h.2.1.out.set_ 2 _), Lib.hid (h.2.2.out.setCell hB _)⟩
theorem MacNow.put3 {B gr g : Nat} {w wx : World} {op d a b n : Int} (h : MacNow B gr g w op d a b n wx) (hne : gr ≠ g) (hB : B ≤ g) (x : Int) : MacNow B gr g w op d a x n (wx.setCell ⟨g, 3, none⟩ (.int .i64 x)) :=
  ⟨Lib.hid (h.1.out.far (p := ⟨g, 3, none⟩) hne _), Lib.hid (h.2.1.out.set_ 3 _), Lib.hid (h.2.2.out.setCell hB _)⟩
theorem MacNow.put4 {B gr g : Nat} {w wx : World} {op d a b n : Int} (h : MacNow B gr g w op d a b n wx) (hne : gr ≠ g) (hB : B ≤ g) (x : Int) : MacNow B gr g w op d a b x (wx.setCell ⟨g, 4, none⟩ (.int .i64 x)) :=
  ⟨Lib.hid (h.1.out.far (p := ⟨g, 4, none⟩) hne _), Lib.hid (h.2.1.out.set_ 4 _), Lib.hid (h.2.2.out.setCell hB _)⟩
theorem bset {g : Nat} {a w : World} (o : Nat) (h : Below g a w) (u : Value) : Below g a (w.setCell ⟨g, o, none⟩ u) := h.setCell (p := ⟨g, o, none⟩) (Nat.le_refl _) u
def isRet (a routines : Int) : Bool := decide (1 + a % 47 = 45 ∨ (1 + a % 47 = 44 ∧ routines = 0))
theorem opOf_ret (a routines : Int) : opOf a routines = if isRet a routines then 47 else 1 + a % 47 := by unfold opOf isRet; simp
theorem tdiv_i64 {b c : Int} (h : I64 b) (hc : 1 ≤ c) : I64 (b.tdiv c) := by
  unfold I64 at *
  rcases Int.le_total 0 b with h0 | h0
  · rw [Int.tdiv_eq_ediv_of_nonneg h0]
    have h1 : b / c ≤ b := Int.ediv_le_self c h0
    have h2 : 0 ≤ b / c := Int.ediv_nonneg h0 (by omega)
    omega
  · have e : b.tdiv c = -((-b).tdiv c) := by rw [Int.neg_tdiv, Int.neg_neg]
    rw [e, Int.tdiv_eq_ediv_of_nonneg (show 0 ≤ -b by omega)]
    have h1 : -b / c ≤ -b := Int.ediv_le_self c (by omega)
    have h2 : 0 ≤ -b / c := Int.ediv_nonneg (by omega) (by omega)
    omega

end Go.Proofs.YtdldochhondifaaDoor
namespace Go.Proofs.YtdldochhondifaaDoor
open Go.RowKit
attribute [local go_sem ↓] Go.wp_at_zero Go.wp_at_succ

/-- The first k instructions of the code. -/
def codeTo (l : List Int) (M : Nat) (routines : Int) (k : Nat) : List Mac := (List.range k).map fun i => macOf (l.getD (3 * i) 0) (l.getD (3 * i + 1) 0) (l.getD (3 * i + 2) 0) ((M : Nat) + 1) routines
theorem codeTo_succ (l : List Int) (M : Nat) (routines : Int) (k : Nat) : codeTo l M routines (k + 1) = codeTo l M routines k ++ [macOf (l.getD (3 * k) 0) (l.getD (3 * k + 1) 0) (l.getD (3 * k + 2) 0) ((M : Nat) + 1) routines] := by
  unfold codeTo
  rw [List.range_succ, List.map_append]
  rfl
theorem codeTo_len (l : List Int) (M : Nat) (routines : Int) (k : Nat) : (codeTo l M routines k).length = k := by unfold codeTo; simp
theorem codeOf_to (l : List Int) (n : Nat) (routines : Int) : codeOf l n routines = codeTo l (min (l.length / 3) n) routines (min (l.length / 3) n) ++ [⟨45, 0, 0, 0, 0⟩] := rfl
theorem getD_get {l : List Int} {i : Nat} (h : i < l.length) : l[i]? = some (l.getD i 0) := by
  rw [List.getD_eq_getElem?_getD, List.getElem?_eq_getElem h]
  rfl

end Go.Proofs.YtdldochhondifaaDoor
