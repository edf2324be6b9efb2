/-
  Slices of numbers that a call makes by append; the contract of (mac.set).list: which bits are set.
  Conditions: none.
-/
import Derived.Test.YtliampeaecgagaaDoorMacG
import Derived.OwnWalk
namespace Go.Proofs.YtliampeaecgagaaDoor
open Go.RowKit

theorem infoInt : (Tryd.prog.info? 3).map (fun i => (i.zero, i.size, i.bytes)) = some (some (.int .i64 0), 1, 8) := by kernel_rfl
/-- The call owns the slice v, which reads as xs. -/
def OwnInts (w : World) (base : Nat) (v : Value) (xs : List Int) : Prop := w.ownsRow base 3 1 v xs.length (xs.map (Value.int .i64))
theorem OwnInts.nil (w : World) (base : Nat) : OwnInts w base (.slice none 0 0) [] := World.ownsRow_nil w base 3 1
theorem OwnInts.ints {w : World} {base : Nat} {v : Value} {xs : List Int} (h : OwnInts w base v xs) : IntsAt w w.heap.size v xs := by
  have hc := fun {g : Nat} (hg : v.ownBlock = some g) => World.ownsRow.cells h hg
  rcases h.2 with ⟨rfl, hn⟩ | ⟨g, cap, cur, rfl, _, hgg, hnc, hcm, _, _⟩
  · exact ⟨none, 0, by rw [hn], by omega, by omega, fun h => by omega⟩
  · refine ⟨some ⟨g, 0, none⟩, cap, rfl, hnc, by unfold maxLen at hcm; omega, fun _ => ⟨g, 0, rfl, ?_, fun k x hk => ?_⟩⟩
    · rcases Nat.lt_or_ge g w.heap.size with h | h
      · exact h
      · rw [Array.getElem?_eq_none h] at hgg; cases hgg
    · have := hc (g := g) rfl k (.int .i64 x) (by rw [List.getElem?_map, hk]; rfl)
      rw [← this]
      unfold Addr.add
      split <;> simp_all
theorem OwnInts.below {w w' : World} {base B : Nat} {v : Value} {xs : List Int} (h : OwnInts w base v xs) (hb : Below B w w') (hB : B = w.heap.size) : OwnInts w' base v xs := by
  refine World.ownsRow.kept (row := none) h ⟨hb.os, hb.tape, hb.output, hb.size, fun k hk _ => hb.block k (by omega)⟩ ?_
  cases v.ownBlock <;> simp
theorem own_block_ge {w : World} {base : Nat} {e : TypeId} {size n : Nat} {v : Value} {xs : List Value} (h : w.ownsRow base e size v n xs) : ∀ k, v.ownBlock = some k → base ≤ k := by
  intro k hk
  rcases h.2 with ⟨rfl, _⟩ | ⟨g, cap, cur, rfl, hb, _⟩
  · simp [Value.ownBlock] at hk
  · simp [Value.ownBlock] at hk
    omega

/-- The set's numbers below k. -/
def bitsTo (s k : Nat) : List Int := ((List.range k).filter fun r => s.testBit r).map fun (r : Nat) => (r : Int)
theorem bitsTo_succ (s k : Nat) : bitsTo s (k + 1) = if s.testBit k then bitsTo s k ++ [(k : Int)] else bitsTo s k := by
  unfold bitsTo
  rw [List.range_succ, List.filter_append, List.map_append]
  by_cases h : s.testBit k <;> simp [h]
theorem bitsTo_len (s k : Nat) : (bitsTo s k).length ≤ k := by
  unfold bitsTo
  rw [List.length_map]
  exact Nat.le_trans (List.length_filter_le _ _) (by simp)
/-- A set of registers: sixteen bits. -/
def Bits16 (s : Nat) : Prop := s < 65536
theorem bit_test (s k : Nat) (hs : Bits16 s) : (bits BinOp.and IntKind.u64 ((s : Int) / 2 ^ k) 1 == 1) = s.testBit k := by
  unfold Bits16 at hs
  have h0 : ((s : Int) / 2 ^ k) = ((s / 2 ^ k : Nat) : Int) := by simp
  have hle : s / 2 ^ k ≤ s := Nat.div_le_self _ _
  rw [h0, show (1 : Int) = ((1 : Nat) : Int) from rfl, bits_and_u64_nat _ _ (by omega) (by decide)]
  rw [Nat.and_one_is_mod, Nat.testBit_eq_decide_div_mod_eq]
  rcases (by omega : s / 2 ^ k % 2 = 0 ∨ s / 2 ^ k % 2 = 1) with h | h <;> rw [h] <;> rfl

set_option maxRecDepth 100000 in
set_option maxHeartbeats 1000000 in
theorem list_any (s : Nat) (hs : Bits16 s) (w : World) :
    Calls Tryd.prog 61 #[.int .u64 s] w fun e w' => ∃ v, e = .returned v ∧ OwnInts w' w.heap.size v (bitsTo s 16) ∧ Below w.heap.size w w' := by
  obtain ⟨i0, hi, hz0, hz1, hz2⟩ := info_parts infoInt
  have HS := Lib.hid hs
  clear hs
  have HP : Hid (∀ v (w' : World), OwnInts w' w.heap.size v (bitsTo s 16) → Below w.heap.size w w' → ∃ v', Ending.returned v = .returned v' ∧ OwnInts w' w.heap.size v' (bitsTo s 16) ∧ Below w.heap.size w w') :=
    Lib.hid fun v w' h1 h2 => ⟨v, rfl, h1, h2⟩
  go_enter Tryd.func61, Tryd.ntmps61
  go_wp2
  go_loopw [3, 5] (fun v i wr => ∃ k : Nat, k ≤ 16 ∧ i = .int .i64 k ∧ Hid (Below w.heap.size w wr) ∧ Hid (OwnInts wr w.heap.size v (bitsTo s k))) (fun _ i _ => 16 - (intOf i).toNat)
  case atStart => exact ⟨0, Nat.zero_le _, rfl, Lib.hid (Below.refl _ _), Lib.hid (OwnInts.nil _ _)⟩
  case round =>
    obtain ⟨k, hk, rfl, HB, HO⟩ := hrel
    have Hs := Lib.hid (bitsTo_succ s k)
    have hlen := bitsTo_len s k
    by_cases hlt : k < 16
    · by_cases hb : s.testBit k = true
      · have ht : (bits BinOp.and IntKind.u64 ((s : Int) / 2 ^ k) 1 == 1) = true := (bit_test s k HS.out).trans hb
        have Hb := Lib.hid hb
        clear hb
        go_wp2_with (at_builtin; refine wpList_append_own _ rfl _ _ 30 rfl w.heap.size 3 i0 (.int .i64 0) 1 8 Tryd.underlying30 hi hz0 hz1 hz2 rfl (by decide) _ _ _ rfl (HO.out.alloc _) ⟨wr.heap.size, 0, none⟩ 1 1 [.int .i64 (k : Int)] rfl rfl (cell_one_new _ _ _) (fun x hx => by simp at hx; subst hx; rfl) (by unfold maxLen; omega) (by omega) (by have := HB.out.size; simp; omega) ?_; intro v' w3 hown' hgrow3 hnil3; have HO' := Lib.hid hown'; have HG' := Lib.hid hgrow3; clear hown' hgrow3 hnil3)
        go_roundw
        case rel =>
          refine ⟨k + 1, by omega, by go_num, Lib.hid ((HB.out.alloc HB.out.size _).grown HG'.out (by have := HB.out.size; simp; omega) (own_block_ge HO.out)), Lib.hid ?_⟩
          rw [Hs.out, if_pos Hb.out]
          unfold OwnInts
          rw [List.length_append, List.map_append]
          exact HO'.out
        case measure => simp [intOf]; omega
      · have ht : (bits BinOp.and IntKind.u64 ((s : Int) / 2 ^ k) 1 == 1) = false := (bit_test s k HS.out).trans (by simpa using hb)
        have Hb := Lib.hid hb
        clear hb
        go_wp2_with fail
        go_roundw
        case rel => exact ⟨k + 1, by omega, by go_num, HB, Lib.hid (by rw [Hs.out, if_neg Hb.out]; exact HO.out)⟩
        case measure => simp [intOf]; omega
    · obtain rfl : k = 16 := by omega
      go_wp2_with fail
      go_ret
      exact HP.out _ _ HO.out HB.out
end Go.Proofs.YtliampeaecgagaaDoor
