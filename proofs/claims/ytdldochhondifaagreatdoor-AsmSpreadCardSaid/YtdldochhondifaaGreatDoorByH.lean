/-
  Several texts in one (ByG ByH): what each proves stands at its theorems.
  Conditions: as the theorems say.
-/
import Derived.Test.YtdldochhondifaaGreatDoorByF
import Derived.Test.YtdldochhondifaaGreatDoorKitD
import Derived.Test.YtdldochhondifaaGreatDoorKtP
import Derived.RegionTactic
import Derived.BigRegion
namespace Go.Proofs.YtdldochhondifaaGreatDoor
open Go.RowKit

/-- A list's bytes. -/
def bytesS (ms : List Mac) : List Int := (ms.map codeS).flatten
theorem bytesS_snoc (ms : List Mac) (k : Nat) (m : Mac) (h : ms[k]? = some m) : bytesS (ms.take (k + 1)) = bytesS (ms.take k) ++ codeS m := by
  unfold bytesS
  rw [take_snoc' ms k m h, List.map_append, List.flatten_append]
  simp
/-- An instruction that may be written: it has an Op, registers in range, a number of Go's int. -/
structure Writes (m : Mac) : Prop where
  op : isOp m.op = true
  regs : RegsOk m
  n : I64 m.n
theorem codeS_len (m : Mac) (h : I64 m.n) : (codeS m).length ≤ 14 := by
  unfold codeS
  have h1 := pack_len (regsS m)
  have h2 := regs_len m
  have h3 := numS_len64 (foldS m.n) (foldS_lt m.n h)
  split <;> simp <;> omega
theorem bytesS_len (ms : List Mac) (h : ∀ m ∈ ms, I64 m.n) : (bytesS ms).length ≤ 14 * ms.length := by
  induction ms with
  | nil => simp [bytesS]
  | cons m ms ih =>
    have h1 := codeS_len m (h m (by simp))
    have h2 := ih fun x hx => h x (by simp [hx])
    unfold bytesS at *
    simp only [List.map_cons, List.flatten_cons, List.length_append, List.length_cons]
    omega

set_option maxRecDepth 100000 in
set_option maxHeartbeats 2000000 in
theorem BOf_any (v : Value) (ms : List Mac) (w : World) (hv : MacsAt w w.heap.size v ms) (ht : Tab w) (hok : ∀ m ∈ ms, Writes m) (hl5 : ms.length ≤ 5000) :
    Calls Tryz.prog 94 #[v] w fun e w' => ∃ v', e = .returned v' ∧ OwnB w' w.heap.size v' (bytesS ms) ∧ Below w.heap.size w w' := by
  have HT := Lib.hid ht
  have HW := Lib.hid hok
  obtain ⟨A, c, rfl, h1, h2, h3⟩ := hv
  have HC := Lib.hid h3
  have HPE : Hid (∀ v' (w' : World), OwnB w' w.heap.size v' (bytesS ms) → Below w.heap.size w w' → ∃ v'', Ending.returned v' = .returned v'' ∧ OwnB w' w.heap.size v'' (bytesS ms) ∧ Below w.heap.size w w') :=
    Lib.hid fun v w' h1 h2 => ⟨v, rfl, h1, h2⟩
  clear h3 ht hok
  obtain ⟨len, hlen⟩ : ∃ len, ms.length = len := ⟨_, rfl⟩
  have HL := Lib.hid hlen
  rw [hlen] at h1 h2 hl5 ⊢
  clear hlen
  go_enter Tryz.func94, Tryz.ntmps94
  go_wp2_with fail
  go_loopw [3, 8] (fun v i wr => ∃ k : Nat, k ≤ len ∧ i = .int .i64 k ∧ Hid (Below w.heap.size w wr) ∧ Hid (OwnB wr w.heap.size v (bytesS (ms.take k)))) (fun _ i _ => len - (intOf i).toNat)
  case atStart => exact ⟨0, Nat.zero_le _, rfl, Lib.hid (Below.refl _ _), Lib.hid (OwnB.nil _ _)⟩
  case round =>
    obtain ⟨k, hk, rfl, HB, HO⟩ := hrel
    by_cases hlt : k < len
    · obtain ⟨b, off, hA, hbw, hcell⟩ := HC.out (by rw [HL.out]; omega)
      subst hA
      obtain ⟨⟨op, dst, a, b', n⟩, hm⟩ : ∃ m, ms[k]? = some m := ⟨ms[k]'(by rw [HL.out]; exact hlt), List.getElem?_eq_getElem _⟩
      obtain ⟨c0, c1, c2, c3, c4⟩ := (hcell k _ hm).below HB.out hbw
      have Hm := Lib.hid hm
      have Hw := Lib.hid (HW.out _ (List.mem_of_getElem? hm))
      have HQ : Hid ((bytesS (ms.take k)).length ≤ 1000000) := Lib.hid (by
        have := bytesS_len (ms.take k) fun m hm' => (HW.out m (List.mem_of_mem_take hm')).n
        rw [List.length_take] at this
        omega)
      have hz := HB.out.size
      have HcB : Hid (Below w.heap.size w (wr.alloc (.cells #[.int .i64 op, .int .i64 dst, .int .i64 a, .int .i64 b', .int .i64 n] 39))) := Lib.hid (HB.out.alloc hz _)
      clear hm hcell
      go_wp2_with fail
      refine (code_any _ _ op dst a b' n w.heap.size _ (HO.out.below ((Below.refl _ _).alloc (Nat.le_refl _) _) rfl) (by simp; omega) (HT.out.own HcB.out) Hw.out.op Hw.out.regs Hw.out.n HQ.out).mono ?_
      rintro e w2 ⟨v2, rfl, ho2, hb2⟩
      have HO2 := Lib.hid ho2
      have HB2 := Lib.hid (HcB.out.trans hb2)
      clear ho2 hb2 c0 c1 c2 c3 c4
      go_wp2_with fail
      go_roundw
      case rel => exact ⟨k + 1, by omega, by go_num, HB2, Lib.hid (by rw [bytesS_snoc ms k _ Hm.out]; exact HO2.out)⟩
      case measure => simp [intOf]; omega
    · go_wp2_with fail
      go_ret
      refine HPE.out _ _ ?_ HB.out
      have := HO.out
      rwa [List.take_of_length_le (by rw [HL.out]; omega)] at this
end Go.Proofs.YtdldochhondifaaGreatDoor
namespace Go.Proofs.YtdldochhondifaaGreatDoor
open Go.RowKit

/-- What a function that tells bytes comes to. -/
def BytesPost (w : World) (f : Int × Int) (xs : List Int) (e : Ending) (w' : World) : Prop :=
  ∃ v, e = .returned (.tuple #[v, .agg #[.int .i64 f.1, .int .i64 f.2]]) ∧ BAt w' w'.heap.size v xs ∧ Below w.heap.size w w'
/-- The bytes that are told. -/
def codeL (ms : List Mac) : List Int := if (checkS ms).1 = 0 then bytesS ms else []
theorem writes_of_check {ms : List Mac} (h : (checkS ms).1 = 0) (hi : ∀ m ∈ ms, m.ok) : ms.length ≤ 5000 ∧ ∀ m ∈ ms, Writes m := by
  obtain ⟨hl, hall, _⟩ := (code_ok_iff ms).1 h
  refine ⟨hl, fun m hm => ?_⟩
  obtain ⟨j, hj⟩ := List.mem_iff_getElem?.1 hm
  have ⟨h1, h2⟩ := regs_of_fault m _ (hall j m hj)
  exact ⟨h1, h2, (hi m hm).n⟩

set_option maxRecDepth 100000 in
set_option maxHeartbeats 2000000 in
theorem Code_any (v : Value) (ms : List Mac) (w : World) (hv : MacsAt w w.heap.size v ms) (ht : Tab w) (hi : ∀ m ∈ ms, m.ok) :
    Calls Tryz.prog 49 #[v] w (BytesPost w (checkS ms) (codeL ms)) := by
  have HV := Lib.hid hv
  have HT := Lib.hid ht
  have HI := Lib.hid hi
  have hA : Below w.heap.size w (w.alloc (.cells #[.int .i64 0, .int .i64 0] 24)) := (Below.refl _ _).alloc (Nat.le_refl _) _
  have HC := Lib.hid (Check_any v ms (w.alloc (.cells #[.int .i64 0, .int .i64 0] 24)) ((HV.out.below hA (Nat.le_refl _)).more (by simp)) (HT.out.own hA))
  clear hv ht hi hA
  by_cases hf : (checkS ms).1 = 0
  · have hf0 : ((checkS ms).1 != 0) = false := by simp [hf]
    have Hf := Lib.hid hf
    have HW := Lib.hid (writes_of_check hf HI.out)
    have HZ : Hid (checkS ms = (0, 0)) := Lib.hid (check_zero hf)
    clear hf
    go_enter Tryz.func49, Tryz.ntmps49
    go_wp2_with fail
    refine HC.out.mono ?_
    rintro e w1 ⟨rfl, hb1⟩
    have hz : w.heap.size < w1.heap.size := by have := hb1.size; simp at this; omega
    have h0 := (Blk.new w 24 #[.int .i64 0, .int .i64 0]).below hb1 (by simp)
    have HK1 := Lib.hid (h0.alloc (.cells #[.int .i64 (checkS ms).1, .int .i64 (checkS ms).2] 24))
    have HB1 : Hid (Below w.heap.size w (w1.alloc (.cells #[.int .i64 (checkS ms).1, .int .i64 (checkS ms).2] 24))) := Lib.hid ((((Below.refl _ _).alloc (Nat.le_refl _) _).trans (hb1.mono (by simp))).alloc (by omega) _)
    clear hb1 h0
    go_wp2_with fail
    generalize w1.alloc (.cells #[.int .i64 (checkS ms).1, .int .i64 (checkS ms).2] 24) = W1 at *
    refine (BOf_any v ms _ ((HV.out.below HB1.out (Nat.le_refl _)).more HB1.out.size) (HT.out.own HB1.out) HW.out.2 HW.out.1).mono ?_
    rintro e w2 ⟨v2, rfl, ho, hb2⟩
    have hk2 := HK1.out.below hb2 HK1.out.lt
    have r0 := hk2.cell 0
    have r1 := hk2.cell 1
    have f0 := hk2.frozen 0
    have f1 := hk2.frozen 1
    have HK2 := Lib.hid hk2
    have HB2 := Lib.hid (HB1.out.trans (hb2.mono HB1.out.size))
    have HO := Lib.hid ho
    have hz2 : w.heap.size < W1.heap.size := HK1.out.lt
    clear hb2 hk2 ho
    go_wp2_with fail
    refine end_tmp_cell rfl rfl (HK2.out.set2 _ _) Tryz.underlying24 rfl (by kernel_rfl) rfl ⟨v2, by rw [HZ.out]; rfl, ?_, (HB2.out.setCell (by simp) _).setCell (by simp) _⟩
    unfold codeL
    rw [if_pos Hf.out]
    exact OwnB.bytes (ownsRow_setCell_below (a := ⟨w.heap.size, 1, none⟩) (ownsRow_setCell_below (a := ⟨w.heap.size, 0, none⟩) HO.out hz2 _) hz2 _)
  · have hf0 : ((checkS ms).1 != 0) = true := by simp [hf]
    have HL : Hid (codeL ms = []) := Lib.hid (by unfold codeL; rw [if_neg hf])
    clear hf
    go_enter Tryz.func49, Tryz.ntmps49
    go_wp2_with fail
    refine HC.out.mono ?_
    rintro e w1 ⟨rfl, hb1⟩
    have hz : w.heap.size < w1.heap.size := by have := hb1.size; simp at this; omega
    have h0 := (Blk.new w 24 #[.int .i64 0, .int .i64 0]).below hb1 (by simp)
    have r0 := h0.cell 0
    have r1 := h0.cell 1
    have f0 := h0.frozen 0
    have f1 := h0.frozen 1
    have HB1 : Hid (Below w.heap.size w w1) := Lib.hid (((Below.refl _ _).alloc (Nat.le_refl _) _).trans (hb1.mono (by simp)))
    have HK1 := Lib.hid h0
    clear hb1 h0
    go_wp2_with fail
    go_region
    all_goals
      go_wp2_with fail
      refine end_tmp_cell rfl rfl (Blk.alloc (HK1.out.set2 _ _) _) Tryz.underlying24 rfl (by kernel_rfl) rfl ⟨_, rfl, ?_, below_drew (Below.alloc (((HB1.out.setCell (by simp) _).setCell (by simp) _)) (by simp; omega) _)⟩
      rw [HL.out]
      exact BAt.nil _ _

set_option maxRecDepth 100000 in
set_option maxHeartbeats 2000000 in
theorem CodeBytes_any (v : Value) (ms : List Mac) (w : World) (hv : MacsAt w w.heap.size v ms) (hok : ∀ m ∈ ms, Writes m) (hl5 : ms.length ≤ 5000) :
    Calls Tryz.prog 41 #[v] w fun e w' => ∃ v', e = .returned v' ∧ OwnB w' w.heap.size v' (bytesS ms) ∧ Below w.heap.size w w' := by
  have HW := Lib.hid hok
  obtain ⟨A, c, rfl, h1, h2, h3⟩ := hv
  have HC := Lib.hid h3
  have HPE : Hid (∀ v' (w' : World), OwnB w' w.heap.size v' (bytesS ms) → Below w.heap.size w w' → ∃ v'', Ending.returned v' = .returned v'' ∧ OwnB w' w.heap.size v'' (bytesS ms) ∧ Below w.heap.size w w') :=
    Lib.hid fun v w' h1 h2 => ⟨v, rfl, h1, h2⟩
  clear h3 hok
  obtain ⟨len, hlen⟩ : ∃ len, ms.length = len := ⟨_, rfl⟩
  have HL := Lib.hid hlen
  rw [hlen] at h1 h2 hl5 ⊢
  clear hlen
  go_enter Tryz.func41, Tryz.ntmps41
  go_wp2_with fail
  go_loopw [3, 4] (fun v i wr => ∃ k : Nat, k ≤ len ∧ i = .int .i64 k ∧ Hid (Below w.heap.size w wr) ∧ Hid (OwnB wr w.heap.size v (bytesS (ms.take k)))) (fun _ i _ => len - (intOf i).toNat)
  case atStart => exact ⟨0, Nat.zero_le _, rfl, Lib.hid (Below.refl _ _), Lib.hid (OwnB.nil _ _)⟩
  case round =>
    obtain ⟨k, hk, rfl, HB, HO⟩ := hrel
    by_cases hlt : k < len
    · obtain ⟨b, off, hA, hbw, hcell⟩ := HC.out (by rw [HL.out]; omega)
      subst hA
      obtain ⟨⟨op, dst, a, b', n⟩, hm⟩ : ∃ m, ms[k]? = some m := ⟨ms[k]'(by rw [HL.out]; exact hlt), List.getElem?_eq_getElem _⟩
      obtain ⟨c0, c1, c2, c3, c4⟩ := (hcell k _ hm).below HB.out hbw
      have Hm := Lib.hid hm
      have Hw := Lib.hid (HW.out _ (List.mem_of_getElem? hm))
      have HQ : Hid ((bytesS (ms.take k)).length ≤ 1000000) := Lib.hid (by
        have := bytesS_len (ms.take k) fun m hm' => (HW.out m (List.mem_of_mem_take hm')).n
        rw [List.length_take] at this
        omega)
      have hz := HB.out.size
      clear hm hcell
      go_wp2_with fail
      refine (MacBytes_any op dst a b' n _ Hw.out.op Hw.out.regs Hw.out.n).mono ?_
      rintro e w2 ⟨v2, rfl, ho2, hb2⟩
      obtain ⟨g2, cap2, hv2, hg2⟩ := own_some ho2 (by unfold codeS; simp)
      have hcells := World.ownsRow.cells ho2 (by rw [hv2]; rfl : v2.ownBlock = some g2)
      subst hv2
      have HCe := Lib.hid hcells
      have HO2 := Lib.hid (HO.out.below hb2 rfl)
      have HB2 := Lib.hid (HB.out.trans (hb2.mono hz))
      have hl14 := codeS_len _ Hw.out.n
      have hz2 : w.heap.size ≤ w2.heap.size := HB2.out.size
      clear ho2 hb2 c0 c1 c2 c3 c4 hcells
      go_wp2_with (at_builtin; refine app_src rfl _ _ 72 5 rfl (.int .u8 0) 1 1 Tryz.underlying72 infoByte rfl (by decide) (by decide) w.heap.size u3 _ _ rfl HO2.out _ _ _ ((codeS ⟨op, dst, a, b', n⟩).map (Value.int .u8)) rfl (by simp) (fun _ => ⟨_, rfl, HCe.out⟩) (fun x hx => by obtain ⟨y, _, rfl⟩ := List.mem_map.1 hx; rfl) (by have := HQ.out; omega) hz2 _ rfl ?_; intro v3 w3 HA3)
      go_roundw
      case rel =>
        refine ⟨k + 1, by omega, by go_num, Lib.hid (HB2.out.trans HA3.out.below), Lib.hid ?_⟩
        rw [bytesS_snoc ms k _ Hm.out]
        unfold OwnB
        rw [List.length_append, List.map_append]
        exact HA3.out.own
      case measure => simp [intOf]; omega
    · go_wp2_with fail
      go_ret
      refine HPE.out _ _ ?_ HB.out
      have := HO.out
      rwa [List.take_of_length_le (by rw [HL.out]; omega)] at this
end Go.Proofs.YtdldochhondifaaGreatDoor
