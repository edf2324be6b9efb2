/-
  Contracts of the program's Reader: Byte; Unfold; math/bits.Len of a small number.
  Conditions: the bytes are bytes.
-/
import Derived.Test.YtliampeaecgagaaDoorByP
import Derived.Test.YtliampeaecgagaaDoorKitD
namespace Go.Proofs.YtliampeaecgagaaDoor
open Go.RowKit

theorem BAt.set {w : World} {B : Nat} {v : Value} {xs : List Int} (h : BAt w B v xs) {p : Addr} (hp : B ≤ p.block) (u : Value) : BAt (w.setCell p u) B v xs :=
  h.below ((Below.refl B w).setCell hp u) (Nat.le_refl _)
/-- The Reader in block g: what is left, whether something was bad; the bytes lie below block B. -/
def RdAt (w : World) (g B : Nat) (bs : List Int) (bad : Bool) : Prop := ∃ v, Blk w g 75 #[v, .bool bad] ∧ BAt w B v bs
theorem RdAt.below {w w' : World} {g B B' : Nat} {bs : List Int} {bad : Bool} (h : RdAt w g B bs bad) (hb : Below B' w w') (hg : g < B') (hB : B ≤ g) : RdAt w' g B bs bad := by
  obtain ⟨v, h1, h2⟩ := h
  exact ⟨v, h1.below hb hg, h2.below hb (by omega)⟩
theorem RdAt.alloc {w : World} {g B : Nat} {bs : List Int} {bad : Bool} (h : RdAt w g B bs bad) (hB : B ≤ g) (o : Obj) : RdAt (w.alloc o) g B bs bad := by
  have hlt : g < w.heap.size := by obtain ⟨v, h1, _⟩ := h; exact h1.lt
  exact h.below ((Below.refl w.heap.size w).alloc (Nat.le_refl _) o) hlt hB
theorem RdAt.far {w : World} {g B : Nat} {bs : List Int} {bad : Bool} (h : RdAt w g B bs bad) (hB : B ≤ g) {p : Addr} (hp : g < p.block) (u : Value) : RdAt (w.setCell p u) g B bs bad := by
  obtain ⟨v, h1, h2⟩ := h
  exact ⟨v, h1.far (by omega) u, h2.set (by omega) u⟩
theorem only_set {w : World} {g o : Nat} (u : Value) : w.grownBy (w.setCell ⟨g, o, none⟩ u) (some g) :=
  ⟨rfl, rfl, rfl, by simp [World.setCell], fun i _ hne => Below.heap_setCell w _ u i (by intro h; exact hne (by rw [h]))⟩
theorem only_trans {a b c : World} {row : Option Nat} (h : a.grownBy b row) (k : b.grownBy c row) : a.grownBy c row :=
  ⟨k.os.trans h.os, k.tape.trans h.tape, k.output.trans h.output, Nat.le_trans h.size k.size, fun i hi hne => (k.block i (Nat.lt_of_lt_of_le hi h.size) hne).trans (h.block i hi hne)⟩
theorem only_blk {w w' : World} {g g' : Nat} {t : TypeId} {cs : Array Value} (h : w.grownBy w' (some g)) (hb : Blk w g' t cs) (hne : g' ≠ g) : Blk w' g' t cs :=
  (h.block g' hb.lt (by intro e; cases e; exact hne rfl)).trans hb
theorem only_below {w w' : World} {g : Nat} (h : w.grownBy w' (some g)) (hg : g ≤ w.heap.size) : Below g w w' :=
  ⟨h.os, h.tape, h.output, h.size, fun i hi => h.block i (by omega) (by intro e; cases e; omega)⟩
theorem BAt.tail {w : World} {B b off c : Nat} {x : Int} {l : List Int} (hc : l.length + 1 ≤ c) (h63 : c ≤ 9223372036854775807) (hb : b < B) (hcell : ∀ (k : Nat) (y : Int), (x :: l)[k]? = some y → w.cell? ⟨b, off + k, none⟩ = some (.int .u8 y)) :
    BAt w B (.slice (some ⟨b, off + 1, none⟩) l.length (c - 1)) l := by
  refine ⟨_, c - 1, rfl, by omega, by omega, fun hl => ?_⟩
  refine ⟨b, off + 1, rfl, hb, fun k y hk => ?_⟩
  have := hcell (k + 1) y (by simpa using hk)
  rw [← this]
  congr 2
  omega
theorem BAt.tail1 {w : World} {B b off : Nat} {l : List Int} (hc : l.length + 1 ≤ 1) : BAt w B (.slice (some ⟨b, off, none⟩) l.length 0) l :=
  ⟨_, 0, rfl, by omega, by omega, fun hl => by omega⟩
set_option maxHeartbeats 1000000 in
theorem Byte_any (g B : Nat) (bs : List Int) (bad : Bool) (w : World) (h : RdAt w g B bs bad) (hB : B ≤ g) (hbs : BytesOk bs) :
    Calls Tryd.prog 62 #[.pointer (some ⟨g, 0, none⟩)] w fun e w' => e = .returned (.int .i64 (bs.headD 0)) ∧ RdAt w' g B bs.tail (bad || bs.isEmpty) ∧ w.grownBy w' (some g) := by
  obtain ⟨v, hblk, A, c, rfl, hlc, h63, hcell⟩ := h
  have r0 := hblk.cell 0
  have r1 := hblk.cell 1
  have f0 := hblk.frozen 0
  have f1 := hblk.frozen 1
  have HK := Lib.hid hblk
  have HC := Lib.hid hcell
  clear hcell hblk
  cases bs with
  | nil =>
    go_enter Tryd.func62, Tryd.ntmps62
    go_wp2_with fail
    go_ret
    refine ⟨rfl, ⟨_, by simpa using HK.out.set_ 1 (.bool true), ?_⟩, only_set _⟩
    exact ⟨A, c, rfl, by simp, h63, fun h => by simp at h⟩
  | cons x l =>
    obtain ⟨b, off, rfl, hbB, hcl⟩ := HC.out (by simp)
    have hx := hbs x (by simp)
    have cx : w.cell? ⟨b, off, none⟩ = some (.int .u8 x) := hcl 0 x rfl
    have Hcl := Lib.hid hcl
    simp only [List.length_cons] at hlc
    have hw : IntKind.i64.wrap x = x := by rw [IntKind.wrap_i64]; omega
    clear hcl
    go_enter Tryd.func62, Tryd.ntmps62
    go_wp2_with fail
    · go_ret
      refine ⟨rfl, ⟨_, by simpa using HK.out.set_ 0 _, ?_⟩, only_set _⟩
      exact (BAt.tail1 (by omega)).set (p := ⟨g, 0, none⟩) hB _
    · go_ret
      refine ⟨rfl, ⟨_, by simpa using HK.out.set_ 0 _, ?_⟩, only_set _⟩
      exact (BAt.tail hlc h63 hbB Hcl.out).set (p := ⟨g, 0, none⟩) hB _
end Go.Proofs.YtliampeaecgagaaDoor
