/-
  Contracts of bytes.Of and bytes.Code: a list's bytes.
  Conditions: the slice reads as instructions; the table shapes lies as its initialiser lays it.
-/
import Derived.Test.YtliampeaecgagaaDoorByF
import Derived.Test.YtliampeaecgagaaDoorByK
import Derived.Test.YtliampeaecgagaaDoorKtP
namespace Go.Proofs.YtliampeaecgagaaDoor
open Go.RowKit

/-- A list's bytes. -/
def bytesS (ms : List Mac) : List Int := (ms.map codeS).flatten
theorem bytesS_snoc (ms : List Mac) (k : Nat) (m : Mac) (h : ms[k]? = some m) : bytesS (ms.take (k + 1)) = bytesS (ms.take k) ++ codeS m := by
  unfold bytesS
  rw [take_snoc' ms k m h, List.map_append, List.flatten_append]
  simp
/-- An instruction that may be written: it has an Op, registers in range, a number of Go's int. -/
structure Writes (m : Mac) : Prop where
  op : isOp m.op = true
  regs : RegsOk m
  n : I64 m.n
theorem codeS_len (m : Mac) (h : I64 m.n) : (codeS m).length ≤ 14 := by
  unfold codeS
  have h1 := pack_len (regsS m)
  have h2 := regs_len m
  have h3 := numS_len64 (foldS m.n) (foldS_lt m.n h)
  split <;> simp <;> omega
theorem bytesS_len (ms : List Mac) (h : ∀ m ∈ ms, I64 m.n) : (bytesS ms).length ≤ 14 * ms.length := by
  induction ms with
  | nil => simp [bytesS]
  | cons m ms ih =>
    have h1 := codeS_len m (h m (by simp))
    have h2 := ih fun x hx => h x (by simp [hx])
    unfold bytesS at *
    simp only [List.map_cons, List.flatten_cons, List.length_append, List.length_cons]
    omega

set_option maxRecDepth 100000 in
set_option maxHeartbeats 2000000 in
theorem BOf_any (v : Value) (ms : List Mac) (w : World) (hv : MacsAt w w.heap.size v ms) (ht : Tab w) (hok : ∀ m ∈ ms, Writes m) (hl5 : ms.length ≤ 5000) :
    Calls Tryd.prog 47 #[v] w fun e w' => ∃ v', e = .returned v' ∧ OwnB w' w.heap.size v' (bytesS ms) ∧ Below w.heap.size w w' := by
  have HT := Lib.hid ht
  have HW := Lib.hid hok
  obtain ⟨A, c, rfl, h1, h2, h3⟩ := hv
  have HC := Lib.hid h3
  have HPE : Hid (∀ v' (w' : World), OwnB w' w.heap.size v' (bytesS ms) → Below w.heap.size w w' → ∃ v'', Ending.returned v' = .returned v'' ∧ OwnB w' w.heap.size v'' (bytesS ms) ∧ Below w.heap.size w w') :=
    Lib.hid fun v w' h1 h2 => ⟨v, rfl, h1, h2⟩
  clear h3 ht hok
  obtain ⟨len, hlen⟩ : ∃ len, ms.length = len := ⟨_, rfl⟩
  have HL := Lib.hid hlen
  rw [hlen] at h1 h2 hl5 ⊢
  clear hlen
  go_enter Tryd.func47, Tryd.ntmps47
  go_wp2_with fail
  go_loopw [3, 8] (fun v i wr => ∃ k : Nat, k ≤ len ∧ i = .int .i64 k ∧ Hid (Below w.heap.size w wr) ∧ Hid (OwnB wr w.heap.size v (bytesS (ms.take k)))) (fun _ i _ => len - (intOf i).toNat)
  case atStart => exact ⟨0, Nat.zero_le _, rfl, Lib.hid (Below.refl _ _), Lib.hid (OwnB.nil _ _)⟩
  case round =>
    obtain ⟨k, hk, rfl, HB, HO⟩ := hrel
    by_cases hlt : k < len
    · obtain ⟨b, off, hA, hbw, hcell⟩ := HC.out (by rw [HL.out]; omega)
      subst hA
      obtain ⟨⟨op, dst, a, b', n⟩, hm⟩ : ∃ m, ms[k]? = some m := ⟨ms[k]'(by rw [HL.out]; exact hlt), List.getElem?_eq_getElem _⟩
      obtain ⟨c0, c1, c2, c3, c4⟩ := (hcell k _ hm).below HB.out hbw
      have Hm := Lib.hid hm
      have Hw := Lib.hid (HW.out _ (List.mem_of_getElem? hm))
      have HQ : Hid ((bytesS (ms.take k)).length ≤ 1000000) := Lib.hid (by
        have := bytesS_len (ms.take k) fun m hm' => (HW.out m (List.mem_of_mem_take hm')).n
        rw [List.length_take] at this
        omega)
      have hz := HB.out.size
      have HcB : Hid (Below w.heap.size w (wr.alloc (.cells #[.int .i64 op, .int .i64 dst, .int .i64 a, .int .i64 b', .int .i64 n] 36))) := Lib.hid (HB.out.alloc hz _)
      clear hm hcell
      go_wp2_with fail
      refine (code_any _ _ op dst a b' n w.heap.size _ (HO.out.below ((Below.refl _ _).alloc (Nat.le_refl _) _) rfl) (by simp; omega) (HT.out.own HcB.out) Hw.out.op Hw.out.regs Hw.out.n HQ.out).mono ?_
      rintro e w2 ⟨v2, rfl, ho2, hb2⟩
      have HO2 := Lib.hid ho2
      have HB2 := Lib.hid (HcB.out.trans hb2)
      clear ho2 hb2 c0 c1 c2 c3 c4
      go_wp2_with fail
      go_roundw
      case rel => exact ⟨k + 1, by omega, by go_num, HB2, Lib.hid (by rw [bytesS_snoc ms k _ Hm.out]; exact HO2.out)⟩
      case measure => simp [intOf]; omega
    · go_wp2_with fail
      go_ret
      refine HPE.out _ _ ?_ HB.out
      have := HO.out
      rwa [List.take_of_length_le (by rw [HL.out]; omega)] at this
end Go.Proofs.YtliampeaecgagaaDoor
