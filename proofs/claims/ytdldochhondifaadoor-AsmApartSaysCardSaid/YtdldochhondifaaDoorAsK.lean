/-
  A region that draws its order and writes to a builder at its end; the routines' namer.
  Conditions: as the theorems say.
-/
import Derived.Test.YtdldochhondifaaDoorAsJ
import Derived.Test.YtdldochhondifaaDoorAsC
import Derived.Test.YtdldochhondifaaDoorLex
import Derived.Conc.MuLone
namespace Go.Proofs.YtdldochhondifaaDoor
open Go.RowKit
attribute [local go_sem] Oper.semAt_some

theorem mkS_of (s : ByteArray) : mkS s.data.toList = s := by
  apply ByteArray.ext
  simp [mkS]
theorem kept_below {e : TypeId} {b : Option Nat} {w w' : World} (h : Below w.heap.size w w') : Lib.OthersKept e b w w' := by
  intro k o hk _ _
  have hlt : k < w.heap.size := (Array.getElem?_eq_some_iff.1 hk).1
  exact (h.block k hlt).trans hk
theorem bld_lt {B b : Nat} {l : List UInt8} {w : World} (h : BldF B b l w) : B ≤ b ∧ b < w.heap.size := by
  rcases h with h | h <;> exact ⟨h.1, h.lt⟩
theorem write_all (B b : Nat) (l s : List UInt8) (w : World) (h : BldF B b l w) (hl : l.length + s.length ≤ 140737488355328) (hB : B ≤ w.heap.size) :
    Calls Tryd.prog 15 #[.pointer (some ⟨b, 0, none⟩), .string (mkS s)] w fun e w' => e = .returned (.tuple #[.int .i64 (s.length : Int), .nilIface]) ∧ BldF B b (l ++ s) w' ∧ Below B w w' ∧ Lib.OthersKept 5 (some b) w w' := by
  refine (Any.Builder_WriteString_k { Tryd.lays156 with } Tryd.Builder_Extra_156 B b (Lib.byteCells l) (mkS s) w h (by rw [Lib.byteCells_length, mkS_size]; exact hl) hB).mono ?_
  rintro e w' ⟨rfl, h1, h2, h3⟩
  refine ⟨by rw [mkS_size], .inr ?_, h2, h3⟩
  have e1 : Lib.strCells (mkS s) = Lib.byteCells s := Lib.strCells_toArray s
  have e2 : Lib.byteCells (l ++ s) = Lib.byteCells l ++ Lib.byteCells s := by unfold Lib.byteCells; rw [List.map_append]
  rw [e2, ← e1]
  exact h1
/-- The builder holds l, or l' once operation ks is done; all else stands. -/
def WrC (W0 : World) (B b : Nat) (l l' : List UInt8) (ks : Nat) (L : Array Bool) (w : World) : Prop :=
  BldF B b (if L.getD ks false = true then l' else l) w ∧ Below B W0 w ∧ Lib.OthersKept 5 (some b) W0 w
section
variable {W0 w w' : World} {B b : Nat} {l l' : List UInt8} {ks : Nat} {L : Array Bool}
theorem WrC.start {n : Nat} (h : BldF B b l W0) : WrC W0 B b l l' ks (Array.replicate n false) W0.drew := by
  refine ⟨?_, ⟨rfl, rfl, rfl, Nat.le_refl _, fun _ _ => rfl⟩, Lib.OthersKept.drew (Lib.OthersKept.refl _ _ _)⟩
  rw [if_neg (by simp [Array.getD])]
  exact h
theorem WrC.keep (h : WrC W0 B b l l' ks L w) (k : Nat) (hk : k ≠ ks) (hb : Below w.heap.size w w') : WrC W0 B b l l' ks (L.setIfInBounds k true) w' := by
  have hl := bld_lt h.1
  refine ⟨?_, h.2.1.trans (hb.mono (by omega)), h.2.2.trans (kept_below hb)⟩
  rw [getD_set_ne L k ks hk]
  exact bld_below h.1 hb
theorem WrC.stay (h : WrC W0 B b l l' ks L w) (k : Nat) (hk : k ≠ ks) : WrC W0 B b l l' ks (L.setIfInBounds k true) w := h.keep k hk (Below.refl _ _)
theorem WrC.blk (h : WrC W0 B b l l' ks L w) {g : Nat} {t : TypeId} {cs : Array Value} (hb : Blk W0 g t cs) (hg : g ≠ b) (ht : t ≠ 5) : Blk w g t cs :=
  h.2.2 g _ hb (by intro e; cases e; exact hg rfl) (by intro c fz e; cases e; exact ht rfl)
theorem WrC.size (h : WrC W0 B b l l' ks L w) : B ≤ w.heap.size := by have := bld_lt h.1; omega
theorem WrC.now (h : WrC W0 B b l l' ks L w) (hL : L.getD ks true = false) : BldF B b l w := by
  have h1 := h.1
  rw [getD_false L ks hL] at h1
  exact h1
theorem WrC.fill (h : WrC W0 B b l l' ks L w) (hL : L.getD ks true = false) (h1 : BldF B b l' w') (h2 : Below B w w') (h3 : Lib.OthersKept 5 (some b) w w') : WrC W0 B b l l' ks (L.setIfInBounds ks true) w' := by
  refine ⟨?_, h.2.1.trans h2, h.2.2.trans h3⟩
  rw [getD_set_eq L ks hL, if_pos rfl]
  exact h1
theorem WrC.done (h : WrC W0 B b l l' ks L w) (hL : L.getD ks false = true) : BldF B b l' w := by
  have h1 := h.1
  rw [hL, if_pos rfl] at h1
  exact h1
end
set_option maxRecDepth 100000 in
theorem closure_any (gi : Nat) (rv : Value) (rs : List Rout) (t : Nat) (r : Rout) (W : World) (hc : W.cell? ⟨gi, 1, none⟩ = some rv) (hr : RoutsAt W W.heap.size rv rs) (ht : rs[t]? = some r) :
    Calls Tryd.prog 17 #[.int .i64 (t : Int), .pointer (some ⟨gi, 0, none⟩)] W fun e w' => e = .returned (.string (mkS r.name.data.toList)) ∧ Below W.heap.size W w' := by
  obtain ⟨A, c, rfl, h1, h2, h3⟩ := hr
  have htl := (List.getElem?_eq_some_iff.1 ht).1
  obtain ⟨b, off, rfl, hbw, hcell⟩ := h3 (by omega)
  obtain ⟨cv, k0, _⟩ := hcell t r ht
  have hn : (t : Int) < (rs.length : Int) := by omega
  have hn0 : (0 : Int) ≤ (t : Int) := Int.natCast_nonneg t
  have HN := Lib.hid (mkS_of r.name)
  clear h3 hcell ht htl
  go_enter Tryd.func17, Tryd.ntmps17
  go_wp2
  go_ret
  exact ⟨ret_str HN.out.symm, Below.refl _ _⟩
theorem namer_closure (gi : Nat) (rv : Value) (rs : List Rout) (n : Int) (w : World) (hc : w.cell? ⟨gi, 1, none⟩ = some rv) (hg : gi < w.heap.size) (hr : RoutsAt w w.heap.size rv rs) (h0 : 0 ≤ n) (hn : n < (rs.length : Int)) :
    Namer (.func (.func 17) #[] #[.pointer (some ⟨gi, 0, none⟩)]) n (rtN (namesL rs) n) w := by
  obtain ⟨t, rfl⟩ : ∃ t : Nat, n = (t : Int) := ⟨n.toNat, by omega⟩
  obtain ⟨r, hr'⟩ : ∃ r, rs[t]? = some r := ⟨rs[t]'(by omega), List.getElem?_eq_getElem _⟩
  have e : rtN (namesL rs) (t : Int) = r.name.data.toList := by
    unfold rtN namesL
    rw [if_neg (by rw [List.length_map]; omega), Int.toNat_natCast, List.getD_eq_getElem?_getD, List.getElem?_map, hr']
    rfl
  rw [e]
  exact ⟨17, #[.pointer (some ⟨gi, 0, none⟩)], rfl, fun a W => MuLone.run_callFunc_enter Tryd.func17 (by kernel_rfl) rfl a W,
    fun W hW => closure_any gi rv rs t r W ((bcell hW hg).trans hc) ((hr.below hW (Nat.le_refl _)).more hW.size) hr'⟩
end Go.Proofs.YtdldochhondifaaDoor
