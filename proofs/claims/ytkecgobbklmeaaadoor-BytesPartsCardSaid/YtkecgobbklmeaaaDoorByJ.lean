/-
  The law BytesShort walks to true.
  Conditions: a number of Go's int; the table shapes lies as its initialiser lays it.
-/
import Derived.Test.YtkecgobbklmeaaaDoorByI
import Derived.Test.YtkecgobbklmeaaaDoorKitD
namespace Go.Proofs.YtkecgobbklmeaaaDoor
open Go.RowKit

/-- The two instructions: a set, a return. -/
def shortMs (n : Int) : List Mac := [⟨1, 3, 0, 0, n⟩, ⟨45, 0, 0, 0, 0⟩]
theorem short_ok (n : Int) : checkS (shortMs n) = (0, 0) := by
  apply check_zero
  rw [code_ok_iff]
  have h1 : shD 1 = true ∧ shA 1 = false ∧ shB 1 = false ∧ shK 1 = 1 := by decide +kernel
  have h2 : shD 45 = false ∧ shA 45 = false ∧ shB 45 = false ∧ shK 45 = 0 := by decide +kernel
  refine ⟨by simp [shortMs], fun j m hm => ?_, ⟨45, 0, 0, 0, 0⟩, rfl, .inr rfl⟩
  match j, hm with
  | 0, hm =>
    cases hm
    rw [fault_zero]
    refine ⟨show isOp 1 = true by decide, ⟨fun _ => by simp, fun h => ?_, fun h => ?_⟩, fun h => ?_, fun _ => rfl, fun _ => rfl, ?_⟩
    · rw [h1.2.1] at h; cases h
    · rw [h1.2.2.1] at h; cases h
    · rw [h1.1] at h; cases h
    · simp only [h1.2.2.2]; rfl
  | 1, hm =>
    cases hm
    rw [fault_zero]
    refine ⟨by decide, ⟨fun h => ?_, fun h => ?_, fun h => ?_⟩, fun _ => rfl, fun _ => rfl, fun _ => rfl, ?_⟩
    · rw [h2.1] at h; cases h
    · rw [h2.2.1] at h; cases h
    · rw [h2.2.2.1] at h; cases h
    · simp only [h2.2.2.2]; rfl
  | j + 2, hm => simp [shortMs] at hm
theorem short_len (n : Int) : (codeL (shortMs n)).length = 3 + (numS (foldS n)).length := by
  unfold codeL
  rw [short_ok, if_pos rfl]
  have h1 : shD 1 = true ∧ shA 1 = false ∧ shB 1 = false ∧ shK 1 = 1 := by decide +kernel
  have h2 : shD 45 = false ∧ shA 45 = false ∧ shB 45 = false ∧ shK 45 = 0 := by decide +kernel
  obtain ⟨a1, a2, a3, a4⟩ := h1
  obtain ⟨b1, b2, b3, b4⟩ := h2
  simp [shortMs, bytesS, codeS, regsS, a1, a2, a3, a4, b1, b2, b3, b4, packS]
  omega
theorem numS_div (m : Nat) (h : 128 ≤ m) : (numS m).length = (numS (m / 128)).length + 1 := by rw [numS_big m (by omega), List.length_cons]

set_option maxRecDepth 100000 in
set_option maxHeartbeats 2000000 in
theorem BytesShort_any (n : Int) (w : World) (hn : I64 n) (ht : Tab w) :
    Calls Tryd.prog 6 #[.int .i64 n] w fun e w' => e = .returned (.bool true) ∧ Below w.heap.size w w' := by
  have HT := Lib.hid ht
  have HN := Lib.hid hn
  have hF := Lib.hid (foldS_lt n hn)
  have h10 := numS_len64 (foldS n) (foldS_lt n hn)
  have hb0 : Below w.heap.size w (w.alloc (.cells #[.int .i64 1, .int .i64 3, .int .i64 0, .int .i64 0, .int .i64 n, .int .i64 45, .int .i64 0, .int .i64 0, .int .i64 0, .int .i64 0] 28)) := (Below.refl _ _).alloc (Nat.le_refl _) _
  have hms : MacsAt (w.alloc (.cells #[.int .i64 1, .int .i64 3, .int .i64 0, .int .i64 0, .int .i64 n, .int .i64 45, .int .i64 0, .int .i64 0, .int .i64 0, .int .i64 0] 28)) (w.alloc (.cells #[.int .i64 1, .int .i64 3, .int .i64 0, .int .i64 0, .int .i64 n, .int .i64 45, .int .i64 0, .int .i64 0, .int .i64 0, .int .i64 0] 28)).heap.size (.slice (some ⟨w.heap.size, 0, none⟩) 2 2) (shortMs n) :=
    macs_of_cells (ms := shortMs n) (c := 2) (off := 0) (Blk.new w 28 _) (fun j u hu => by rw [Nat.zero_add]; simpa [cellsS, shortMs, Mac.cells] using hu) (by simp [shortMs]) (by simp [shortMs])
  have hi : ∀ m ∈ shortMs n, m.ok := by
    intro m hm
    simp only [shortMs, List.mem_cons, List.not_mem_nil, or_false] at hm
    have hn' := hn
    unfold I64 at hn'
    rcases hm with rfl | rfl <;> refine ⟨?_, ?_, ?_, ?_, ?_⟩ <;> unfold I64 <;> simp only <;> omega
  have hcall := Code_any _ (shortMs n) _ hms (HT.out.own hb0) hi
  have HC := Lib.hid hcall
  have HB0 := Lib.hid hb0
  have hz : checkS (shortMs n) = (0, 0) := short_ok n
  rw [hz] at HC
  have hlen := short_len n
  obtain ⟨L, hL⟩ : ∃ L, (codeL (shortMs n)).length = L := ⟨_, rfl⟩
  have HLn : Hid (L = 3 + (numS (foldS n)).length) := Lib.hid (hL.symm.trans hlen)
  have HL := Lib.hid hL
  have hL13 : L ≤ 13 := by omega
  unfold I64 at hn
  obtain ⟨hn1, hn2⟩ := hn
  have HFl := Lib.hid hF.out
  clear hb0 hms hi hcall ht hz hlen hL h10 HN hF
  by_cases hneg : n < 0
  all_goals
    have HF : Hid (_ = ((foldS n : Nat) : Int)) := Lib.hid (show (if n < 0 then -(n + 1) * 2 + 1 else n * 2) = ((foldS n : Nat) : Int) by unfold foldS; split <;> omega)
    first | rw [if_pos hneg] at HF | rw [if_neg hneg] at HF
    go_enter Tryd.func6, Tryd.ntmps6
    go_wp2_with fail
    refine HC.out.mono ?_
    rintro e w1 ⟨v1, rfl, ⟨A, c, hv1, _, hc, _⟩, hb1⟩
    rw [HL.out] at hv1
    subst hv1
    have HB1 := Lib.hid (HB0.out.trans (hb1.mono HB0.out.size))
    clear hb1
    go_wp2_with fail
    have hk := Blk.new w1 24 #[.int .i64 0, .int .i64 0]
    have HB2 := Lib.hid (HB1.out.alloc HB1.out.size (.cells #[.int .i64 0, .int .i64 0] 24))
    have HK := Lib.hid hk
    clear hk
    generalize w1.alloc (.cells #[.int .i64 0, .int .i64 0] 24) = W at *
    go_loop [5, 6] (fun want left => ∃ (m : Nat) (x y : Int), want = .int .i64 x ∧ left = .int .u64 y ∧ y = m ∧ 0 ≤ x ∧ x ≤ 13 ∧ Hid (m < 18446744073709551616) ∧ Hid (x + ((numS m).length : Int) = 4 + ((numS (foldS n)).length : Int))) (fun _ left => (intOf left).toNat)
    case atStart => exact ⟨foldS n, _, _, rfl, rfl, HF.out, by omega, by omega, HFl, Lib.hid rfl⟩
    case round =>
      obtain ⟨m, x, y, rfl, rfl, rfl, hx0, hx13, HM, HX⟩ := hrel
      by_cases hm : 128 ≤ m
      · have h1 := numS_div m hm
        have h2 := numS_pos (m / 128)
        have h3 := HX.out
        have h4 := HLn.out
        have hm' : (128 : Int) ≤ (m : Int) := by omega
        have hx12 : x ≤ 12 := by omega
        have HX2 : Hid (x + 1 + ((numS (m / 128)).length : Int) = 4 + ((numS (foldS n)).length : Int)) := Lib.hid (by omega)
        clear h1 h2 h3 h4
        have hw : IntKind.u64.wrap ((m : Int) / 128) = (m : Int) / 128 := by have := HM.out; rw [IntKind.wrap_u64]; omega
        go_wp2_with fail
        go_round
        case rel => exact ⟨m / 128, _, _, rfl, rfl, by omega, by omega, by omega, Lib.hid (by have := HM.out; omega), HX2⟩
        case measure => simp [intOf]; omega
      · have h1 : (numS m).length = 1 := by rw [numS_small m (by omega)]; rfl
        have h3 := HX.out
        have h4 := HLn.out
        obtain rfl : x = (L : Int) := by omega
        have hm' : ¬ (128 : Int) ≤ (m : Int) := by omega
        have r0 := HK.out.cell 0
        clear h1 h3 h4 HX
        go_wp2_with fail
        go_ret
        exact ⟨ret_bool (by simp), HB2.out⟩
end Go.Proofs.YtkecgobbklmeaaaDoor
