/-
  Arguments opened: a number, a slice of numbers, a slice of bytes.
  Conditions: none.
-/
import Derived.Test.YtliampeaecgagaaDoorKitB
import Derived.Test.YtliampeaecgagaaDoorByK
namespace Go.Proofs.YtliampeaecgagaaDoor
open Go.ChangeShapes Go.WideShapes Go.ChangeAt Go.RowKit Go.Deep

section
variable {H : Type} {enc : TypeId × Value → H} {w : World}
set_option maxRecDepth 100000 in
theorem int_of_trod {r : Reach} {b0 base : Nat} {spare : Nat → Bool} {held : Bool} {v : Value} {d : DataW H} {ps : List MemPlace} (hval : Value.okWide Tryd.prog w r b0 3 v) (hd : DataW.Trod enc Tryd.prog w base spare held 3 v d ps) : ∃ n, v = .int .i64 n ∧ I64 n := by
  obtain ⟨n, h, _, _, hw⟩ := open_int Tryd.underlying3 hval hd
  exact ⟨n, h, i64_of_wf hw⟩
theorem u8_of_wf {n : Int} (h : (Lit.int .u8 n).wf = true) : 0 ≤ n ∧ n < 256 := by
  simp only [Lit.wf, Bool.and_eq_true, decide_eq_true_eq] at h
  have h2 : (0 : Int) ≤ n ∧ n ≤ 255 := h
  omega
theorem add_zero_addr' (a : Addr) : a.add 0 = a := by unfold Addr.add; simp
theorem addr_split (a : Addr) (i : Nat) (h : a = ⟨a.block, a.off, none⟩) : a.add i = ⟨a.block, a.off + i, none⟩ := by
  generalize a.block = b at h
  generalize a.off = o at h
  subst h
  unfold Addr.add
  split <;> simp_all
theorem ints_of_trod {v : Value} {d : DataW H} {ps : List MemPlace} (hv : ∃ a len cap, v = .slice a len cap) (h : DataW.Trod enc Tryd.prog w 0 (fun _ => true) true 30 v d ps) :
    ∃ xs : List Int, IntsAt w w.heap.size v xs ∧ ∀ x ∈ xs, I64 x := by
  obtain ⟨fuel, hf⟩ := h
  obtain ⟨a', len', cap', rfl⟩ := hv
  rcases open_ints Tryd.underlying30 Tryd.underlying3 (by kernel_rfl) hf with ⟨hcs, _⟩ | ⟨a, len, cap, zs, hcs, _, hl, hm, hz, _, hc, hw⟩
  · simp only [Value.cells, List.cons.injEq, and_true] at hcs
    rw [hcs]
    exact ⟨[], ⟨none, 0, rfl, by simp, by omega, fun h => by simp at h⟩, fun m hm => by cases hm⟩
  · simp only [Value.cells, List.cons.injEq, and_true] at hcs
    rw [hcs]
    simp only [if_true] at hz
    have hlen : (zs.take len).length = len := by rw [List.length_take]; omega
    refine ⟨zs.take len, ⟨some a, cap, by rw [hlen], by rw [hlen]; exact hl, by unfold maxLen at hm; omega, fun hpos => ?_⟩, fun x hx => i64_of_wf (hw x (List.mem_of_mem_take hx))⟩
    rw [hlen] at hpos
    have h0 := hc 0 (by omega)
    rw [add_zero_addr'] at h0
    have hs := spot_none h0
    refine ⟨a.block, a.off, by rw [← hs], World.block_lt_of_cell? _ _ h0, fun k x hk => ?_⟩
    have hk' : k < len := by
      have := (List.getElem?_eq_some_iff.1 hk).1
      omega
    have := hc k (by omega)
    rw [addr_split a k hs] at this
    rw [this]
    rw [List.getElem?_take] at hk
    rw [if_pos hk'] at hk
    rw [List.getD_eq_getElem?_getD, hk]
    rfl
theorem bytes_of_trod {v : Value} {d : DataW H} {ps : List MemPlace} (hv : ∃ a len cap, v = .slice a len cap) (h : DataW.Trod enc Tryd.prog w 0 (fun _ => true) true 22 v d ps) :
    ∃ xs : List Int, BAt w w.heap.size v xs ∧ ∀ x ∈ xs, 0 ≤ x ∧ x < 256 := by
  obtain ⟨fuel, hf⟩ := h
  obtain ⟨a', len', cap', rfl⟩ := hv
  rcases open_ints Tryd.underlying22 Tryd.underlying5 (by kernel_rfl) hf with ⟨hcs, _⟩ | ⟨a, len, cap, zs, hcs, _, hl, hm, hz, _, hc, hw⟩
  · simp only [Value.cells, List.cons.injEq, and_true] at hcs
    rw [hcs]
    exact ⟨[], BAt.nil _ _, fun m hm => by cases hm⟩
  · simp only [Value.cells, List.cons.injEq, and_true] at hcs
    rw [hcs]
    simp only [if_true] at hz
    have hlen : (zs.take len).length = len := by rw [List.length_take]; omega
    refine ⟨zs.take len, ⟨some a, cap, by rw [hlen], by rw [hlen]; exact hl, by unfold maxLen at hm; omega, fun hpos => ?_⟩, fun x hx => u8_of_wf (hw x (List.mem_of_mem_take hx))⟩
    rw [hlen] at hpos
    have h0 := hc 0 (by omega)
    rw [add_zero_addr'] at h0
    have hs := spot_none h0
    refine ⟨a.block, a.off, by rw [← hs], World.block_lt_of_cell? _ _ h0, fun k x hk => ?_⟩
    have hk' : k < len := by
      have := (List.getElem?_eq_some_iff.1 hk).1
      omega
    have := hc k (by omega)
    rw [addr_split a k hs] at this
    rw [this]
    rw [List.getElem?_take] at hk
    rw [if_pos hk'] at hk
    rw [List.getD_eq_getElem?_getD, hk]
    rfl
end
end Go.Proofs.YtliampeaecgagaaDoor
