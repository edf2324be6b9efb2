/-
  Texts of the claim AsmWholeSays (MacM): what each proves stands at its theorems.
  Conditions: as the theorems say.
-/
import Derived.OwnWalk
import Derived.Deep.QuietTactic
import Derived.BigQuiet
import Derived.Test.YtdldochhondifaaGreatDoorVMacE
namespace Go.Proofs.YtdldochhondifaaGreatDoor
open Go.RowKit

/-- What is wrong with a list of instructions: a code, and where. -/
def checkS (ms : List Mac) : Int × Int :=
  if 5000 < ms.length then (2, 0) else
  match ms.findIdx? (fun m => faultS m (ms.length : Int) != 0) with
  | some i => (faultS (ms.getD i ⟨0, 0, 0, 0, 0⟩) (ms.length : Int), (i : Int))
  | none => match ms.getLast? with
    | none => (5, 0)
    | some m => if m.op = 37 ∨ m.op = 45 then (0, 0) else (5, (ms.length : Int) - 1)
theorem checkS_many (ms : List Mac) (h : 5000 < ms.length) : checkS ms = (2, 0) := by unfold checkS; rw [if_pos h]
theorem checkS_bad (ms : List Mac) (k : Nat) (m : Mac) (hl : ms.length ≤ 5000) (hk : ms[k]? = some m) (hf : faultS m (ms.length : Int) ≠ 0)
    (hb : ∀ (j : Nat) (m' : Mac), j < k → ms[j]? = some m' → faultS m' (ms.length : Int) = 0) : checkS ms = (faultS m (ms.length : Int), (k : Int)) := by
  unfold checkS
  rw [if_neg (by omega)]
  have : ms.findIdx? (fun m => faultS m (ms.length : Int) != 0) = some k := by
    obtain ⟨hlt, he⟩ := List.getElem?_eq_some_iff.1 hk
    rw [List.findIdx?_eq_some_iff_getElem]
    refine ⟨hlt, by simp [he, hf], fun j hj => ?_⟩
    have := hb j _ hj (List.getElem?_eq_getElem (by omega))
    simp [this]
  rw [this]
  simp only [List.getD_eq_getElem?_getD, hk, Option.getD_some]
theorem checkS_end (ms : List Mac) (m : Mac) (hl : ms.length ≤ 5000) (hb : ∀ (j : Nat) (m' : Mac), ms[j]? = some m' → faultS m' (ms.length : Int) = 0) (hm : ms[ms.length - 1]? = some m) :
    checkS ms = if m.op = 37 ∨ m.op = 45 then (0, 0) else (5, (ms.length : Int) - 1) := by
  unfold checkS
  rw [if_neg (by omega)]
  have : ms.findIdx? (fun m => faultS m (ms.length : Int) != 0) = none := by
    rw [List.findIdx?_eq_none_iff]
    intro x hx
    obtain ⟨j, hj⟩ := List.mem_iff_getElem?.1 hx
    simp [hb j x hj]
  rw [this, List.getLast?_eq_getElem?, hm]
theorem ret_agg2 {a b a' b' : Int} (h : (a', b') = (a, b)) : Ending.returned (.agg #[.int .i64 a, .int .i64 b]) = .returned (.agg #[.int .i64 a', .int .i64 b']) := by
  injection h with h1 h2; rw [h1, h2]

set_option maxRecDepth 100000 in
set_option maxHeartbeats 2000000 in
theorem Check_any (v : Value) (ms : List Mac) (w : World) (hv : MacsAt w w.heap.size v ms) (ht : Tab w) :
    Calls Tryz.prog 27 #[v] w fun e w' => e = .returned (.agg #[.int .i64 (checkS ms).1, .int .i64 (checkS ms).2]) ∧ Below w.heap.size w w' := by
  have HM := Lib.hid hv
  have HT := Lib.hid ht
  obtain ⟨A, c, rfl, h1, h2, h3⟩ := hv
  have HR := Lib.hid h3
  clear h3 ht
  by_cases hmany : 5000 < ms.length
  · have Hc := Lib.hid (checkS_many ms hmany)
    go_enter Tryz.func27, Tryz.ntmps27
    go_wp2
    exact bodyPost_ret (v := .agg #[.int .i64 2, .int .i64 0]) (by simp [results, Tryz.results27, go_sem]) rfl ⟨ret_agg2 Hc.out, (Below.refl _ _).alloc (Nat.le_refl _) _⟩
  by_cases hnil : ms.length = 0
  · have Hc : Hid (checkS ms = (5, 0)) := Lib.hid (by rw [List.eq_nil_of_length_eq_zero hnil]; rfl)
    have hb : ((ms.length : Int) == 0) = true := by simp [hnil]
    clear hnil
    go_enter Tryz.func27, Tryz.ntmps27
    go_wp2
    exact bodyPost_ret (v := .agg #[.int .i64 5, .int .i64 0]) (by simp [results, Tryz.results27, go_sem]) rfl ⟨ret_agg2 Hc.out, (Below.refl _ _).alloc (Nat.le_refl _) _⟩
  obtain ⟨b, off, rfl, hbw, hcell⟩ := HR.out (by omega)
  have hl5 : ms.length ≤ 5000 := by omega
  have hpos : 0 < ms.length := by omega
  have HC := Lib.hid hcell
  have hb0 : ((ms.length : Int) == 0) = false := beq_eq_false_iff_ne.2 (by omega)
  clear hnil hmany hcell HR
  obtain ⟨len, hlen⟩ : ∃ len, ms.length = len := ⟨_, rfl⟩
  have HL := Lib.hid hlen
  rw [hlen] at h1 h2 hl5 hpos hb0 ⊢
  clear hlen
  go_enter Tryz.func27, Tryz.ntmps27
  go_wp2
  go_loopw [19] (fun i wr => ∃ k : Nat, k ≤ len ∧ i = .int .i64 k ∧ Hid (∀ (j : Nat) (m' : Mac), j < k → ms[j]? = some m' → faultS m' (len : Int) = 0) ∧ Below w.heap.size w wr ∧ Blk wr w.heap.size 24 #[.int .i64 0, .int .i64 0]) (fun i _ => len - (intOf i).toNat)
  case atStart => exact ⟨0, Nat.zero_le _, rfl, Lib.hid (fun j _ h => absurd h (Nat.not_lt_zero j)), (Below.refl _ _).alloc (Nat.le_refl _) _, Blk.new _ _ _⟩
  case round =>
    obtain ⟨k, hk, rfl, HF, hb, hblk⟩ := hrel
    by_cases hlt : k < len
    · obtain ⟨⟨op, dst, a, b', n⟩, hm⟩ : ∃ m, ms[k]? = some m := ⟨ms[k]'(by rw [HL.out]; exact hlt), List.getElem?_eq_getElem _⟩
      obtain ⟨c0, c1, c2, c3, c4⟩ := (HC.out k _ hm).below hb hbw
      have Hm := Lib.hid hm
      clear hm
      have HB := Lib.hid hb
      have HK := Lib.hid hblk
      clear hb hblk
      by_cases hf : faultS ⟨op, dst, a, b', n⟩ (len : Int) = 0
      · have hf0 : (faultS ⟨op, dst, a, b', n⟩ (len : Int) != 0) = false := by simp [hf]
        have Hf := Lib.hid hf
        clear hf
        go_wp2_with (go_at_call 67; refine (fault_any _ _ _ _ _ _ _ ((HT.out.own HB.out).own ((Below.refl _ _).alloc (Nat.le_refl _) _))).mono ?_; rintro e w2 ⟨rfl, hb2⟩)
        go_roundw
        case rel =>
          refine ⟨k + 1, by omega, by go_num, Lib.hid fun j m' hj hm' => ?_, (HB.out.alloc HB.out.size _).trans (hb2.mono (by have := HB.out.size; simp; omega)), (HK.out.alloc _).below hb2 (by have := HK.out.lt; simp; omega)⟩
          rcases Nat.lt_or_ge j k with h | h
          · exact HF.out j m' h hm'
          · obtain rfl : j = k := by omega
            rw [Hm.out] at hm'
            cases hm'
            exact Hf.out
        case measure => simp [intOf]; omega
      · have hf0 : (faultS ⟨op, dst, a, b', n⟩ (len : Int) != 0) = true := by simp [hf]
        have Hc : Hid (checkS ms = (faultS ⟨op, dst, a, b', n⟩ (len : Int), (k : Int))) := Lib.hid (by
          have := checkS_bad ms k _ (by rw [HL.out]; exact hl5) Hm.out (by rw [HL.out]; exact hf) (by rw [HL.out]; exact HF.out)
          rwa [HL.out] at this)
        clear hf
        go_wp2_with fail
        refine (fault_any _ _ _ _ _ _ _ ((HT.out.own HB.out).own ((Below.refl _ _).alloc (Nat.le_refl _) _))).mono ?_
        rintro e w2 ⟨rfl, hb2⟩
        have hk2 := (HK.out.alloc (.cells #[.int .i64 op, .int .i64 dst, .int .i64 a, .int .i64 b', .int .i64 n] 39)).below hb2 (by have := HK.out.lt; simp; omega)
        have r0 := hk2.cell 0
        have r1 := hk2.cell 1
        have f0 := hk2.frozen 0
        have f1 := hk2.frozen 1
        have hBl : Hid (Below w.heap.size w w2) := Lib.hid ((HB.out.alloc HB.out.size _).trans (hb2.mono (by have := HB.out.size; simp; omega)))
        have HK2 := Lib.hid hk2
        clear hb2 hk2
        go_wp2_with fail
        exact end_cell rfl rfl (HK2.out.set2 _ _) Tryz.underlying24 rfl (by kernel_rfl) rfl ⟨ret_agg2 Hc.out, (hBl.out.setCell (Nat.le_refl _) _).setCell (Nat.le_refl _) _⟩
    · have hk' : k = len := by omega
      subst hk'
      obtain ⟨⟨op, dst, a, b', n⟩, hm⟩ : ∃ m, ms[k - 1]? = some m := ⟨ms[k - 1]'(by rw [HL.out]; omega), List.getElem?_eq_getElem _⟩
      obtain ⟨c0, c1, c2, c3, c4⟩ := (HC.out _ _ hm).below hb hbw
      have Hc := Lib.hid (checkS_end ms _ (by rw [HL.out]; exact hl5) (by
        intro j m' hj
        have hlt' : j < k := by have := (List.getElem?_eq_some_iff.1 hj).1; rw [HL.out] at this; exact this
        rw [HL.out]; exact HF.out j m' hlt' hj) (by rw [HL.out]; exact hm))
      have Hm := Lib.hid hm
      have r0 := hblk.cell 0
      have r1 := hblk.cell 1
      have f0 := hblk.frozen 0
      have f1 := hblk.frozen 1
      have HB := Lib.hid hb
      have HK := Lib.hid hblk
      clear hm hb hblk c1 c2 c3 c4
      by_cases h37 : op = 37 ∨ op = 45
      · have Hc' : Hid (checkS ms = (0, 0)) := Lib.hid (by rw [Hc.out, if_pos h37])
        clear Hc
        rcases (by omega : op = 37 ∨ (op ≠ 37 ∧ op = 45)) with h | ⟨h, h'⟩
        · subst h
          go_wp2_with fail
          exact end_cell rfl rfl (HK.out.set2 _ _) Tryz.underlying24 rfl (by kernel_rfl) rfl ⟨ret_agg2 Hc'.out, (HB.out.setCell (Nat.le_refl _) _).setCell (Nat.le_refl _) _⟩
        · subst h'
          go_wp2_with fail
          exact end_cell rfl rfl (HK.out.set2 _ _) Tryz.underlying24 rfl (by kernel_rfl) rfl ⟨ret_agg2 Hc'.out, (HB.out.setCell (Nat.le_refl _) _).setCell (Nat.le_refl _) _⟩
      · have e1 : (op != 37) = true := by simp; omega
        have e2 : (op != 45) = true := by simp; omega
        have Hc' : Hid (checkS ms = (5, (k : Int) - 1)) := Lib.hid (by rw [Hc.out, if_neg h37, HL.out])
        clear h37 Hc
        go_wp2_with fail
        exact end_cell rfl rfl (HK.out.set2 _ _) Tryz.underlying24 rfl (by kernel_rfl) rfl ⟨ret_agg2 Hc'.out, (HB.out.setCell (Nat.le_refl _) _).setCell (Nat.le_refl _) _⟩
end Go.Proofs.YtdldochhondifaaGreatDoor
namespace Go.Proofs.YtdldochhondifaaGreatDoor
open Go.RowKit

set_option maxRecDepth 100000 in
set_option maxHeartbeats 2000000 in
theorem MacCheck_any (v : Value) (ms : List Mac) (w : World) (hv : MacsAt w w.heap.size v ms) :
    Calls Tryz.prog 31 #[v] w fun e w' => e = .returned (.agg #[.int .i64 (checkS ms).1, .int .i64 (checkS ms).2]) ∧ Below w.heap.size w w' := by
  have HM := Lib.hid hv
  obtain ⟨A, c, rfl, h1, h2, h3⟩ := hv
  have HR := Lib.hid h3
  clear h3
  by_cases hmany : 5000 < ms.length
  · have Hc := Lib.hid (checkS_many ms hmany)
    go_enter Tryz.func31, Tryz.ntmps31
    go_wp2
    exact bodyPost_ret (v := .agg #[.int .i64 2, .int .i64 0]) (by simp [results, Tryz.results31, go_sem]) rfl ⟨ret_agg2 Hc.out, (Below.refl _ _).alloc (Nat.le_refl _) _⟩
  by_cases hnil : ms.length = 0
  · have Hc : Hid (checkS ms = (5, 0)) := Lib.hid (by rw [List.eq_nil_of_length_eq_zero hnil]; rfl)
    have hb : ((ms.length : Int) == 0) = true := by simp [hnil]
    clear hnil
    go_enter Tryz.func31, Tryz.ntmps31
    go_wp2
    exact bodyPost_ret (v := .agg #[.int .i64 5, .int .i64 0]) (by simp [results, Tryz.results31, go_sem]) rfl ⟨ret_agg2 Hc.out, (Below.refl _ _).alloc (Nat.le_refl _) _⟩
  obtain ⟨b, off, rfl, hbw, hcell⟩ := HR.out (by omega)
  have hl5 : ms.length ≤ 5000 := by omega
  have hpos : 0 < ms.length := by omega
  have HC := Lib.hid hcell
  have hb0 : ((ms.length : Int) == 0) = false := beq_eq_false_iff_ne.2 (by omega)
  clear hnil hmany hcell HR
  obtain ⟨len, hlen⟩ : ∃ len, ms.length = len := ⟨_, rfl⟩
  have HL := Lib.hid hlen
  rw [hlen] at h1 h2 hl5 hpos hb0 ⊢
  clear hlen
  go_enter Tryz.func31, Tryz.ntmps31
  go_wp2
  go_loopw [3] (fun i wr => ∃ k : Nat, k ≤ len ∧ i = .int .i64 k ∧ Hid (∀ (j : Nat) (m' : Mac), j < k → ms[j]? = some m' → faultS m' (len : Int) = 0) ∧ Below w.heap.size w wr ∧ Blk wr w.heap.size 24 #[.int .i64 0, .int .i64 0]) (fun i _ => len - (intOf i).toNat)
  case atStart => exact ⟨0, Nat.zero_le _, rfl, Lib.hid (fun j _ h => absurd h (Nat.not_lt_zero j)), (Below.refl _ _).alloc (Nat.le_refl _) _, Blk.new _ _ _⟩
  case round =>
    obtain ⟨k, hk, rfl, HF, hb, hblk⟩ := hrel
    by_cases hlt : k < len
    · obtain ⟨⟨op, dst, a, b', n⟩, hm⟩ : ∃ m, ms[k]? = some m := ⟨ms[k]'(by rw [HL.out]; exact hlt), List.getElem?_eq_getElem _⟩
      obtain ⟨c0, c1, c2, c3, c4⟩ := (HC.out k _ hm).below hb hbw
      have Hm := Lib.hid hm
      clear hm
      have HB := Lib.hid hb
      have HK := Lib.hid hblk
      clear hb hblk
      by_cases hf : faultS ⟨op, dst, a, b', n⟩ (len : Int) = 0
      · have hf0 : (faultS ⟨op, dst, a, b', n⟩ (len : Int) != 0) = false := by simp [hf]
        have Hf := Lib.hid hf
        clear hf
        go_wp2_with (go_at_call 74; refine (macFault_any _ _ _ _ _ _ _).mono ?_; rintro e w2 ⟨rfl, hb2⟩)
        go_roundw
        case rel =>
          refine ⟨k + 1, by omega, by go_num, Lib.hid fun j m' hj hm' => ?_, HB.out.trans (hb2.mono HB.out.size), HK.out.below hb2 HK.out.lt⟩
          rcases Nat.lt_or_ge j k with h | h
          · exact HF.out j m' h hm'
          · obtain rfl : j = k := by omega
            rw [Hm.out] at hm'
            cases hm'
            exact Hf.out
        case measure => simp [intOf]; omega
      · have hf0 : (faultS ⟨op, dst, a, b', n⟩ (len : Int) != 0) = true := by simp [hf]
        have Hc : Hid (checkS ms = (faultS ⟨op, dst, a, b', n⟩ (len : Int), (k : Int))) := Lib.hid (by
          have := checkS_bad ms k _ (by rw [HL.out]; exact hl5) Hm.out (by rw [HL.out]; exact hf) (by rw [HL.out]; exact HF.out)
          rwa [HL.out] at this)
        clear hf
        go_wp2_with fail
        refine (macFault_any _ _ _ _ _ _ _).mono ?_
        rintro e w2 ⟨rfl, hb2⟩
        have hk2 := HK.out.below hb2 HK.out.lt
        have r0 := hk2.cell 0
        have r1 := hk2.cell 1
        have f0 := hk2.frozen 0
        have f1 := hk2.frozen 1
        have hBl : Hid (Below w.heap.size w w2) := Lib.hid (HB.out.trans (hb2.mono HB.out.size))
        have HK2 := Lib.hid hk2
        clear hb2 hk2
        go_wp2_with fail
        exact end_cell rfl rfl (HK2.out.set2 _ _) Tryz.underlying24 rfl (by kernel_rfl) rfl ⟨ret_agg2 Hc.out, (hBl.out.setCell (Nat.le_refl _) _).setCell (Nat.le_refl _) _⟩
    · have hk' : k = len := by omega
      subst hk'
      obtain ⟨⟨op, dst, a, b', n⟩, hm⟩ : ∃ m, ms[k - 1]? = some m := ⟨ms[k - 1]'(by rw [HL.out]; omega), List.getElem?_eq_getElem _⟩
      obtain ⟨c0, c1, c2, c3, c4⟩ := (HC.out _ _ hm).below hb hbw
      have Hc := Lib.hid (checkS_end ms _ (by rw [HL.out]; exact hl5) (by
        intro j m' hj
        have hlt' : j < k := by have := (List.getElem?_eq_some_iff.1 hj).1; rw [HL.out] at this; exact this
        rw [HL.out]; exact HF.out j m' hlt' hj) (by rw [HL.out]; exact hm))
      have Hm := Lib.hid hm
      have r0 := hblk.cell 0
      have r1 := hblk.cell 1
      have f0 := hblk.frozen 0
      have f1 := hblk.frozen 1
      have HB := Lib.hid hb
      have HK := Lib.hid hblk
      clear hm hb hblk c1 c2 c3 c4
      by_cases h37 : op = 37 ∨ op = 45
      · have Hc' : Hid (checkS ms = (0, 0)) := Lib.hid (by rw [Hc.out, if_pos h37])
        clear Hc
        rcases (by omega : op = 37 ∨ (op ≠ 37 ∧ op = 45)) with h | ⟨h, h'⟩
        · subst h
          go_wp2_with fail
          exact end_cell rfl rfl (HK.out.set2 _ _) Tryz.underlying24 rfl (by kernel_rfl) rfl ⟨ret_agg2 Hc'.out, (HB.out.setCell (Nat.le_refl _) _).setCell (Nat.le_refl _) _⟩
        · subst h'
          go_wp2_with fail
          exact end_cell rfl rfl (HK.out.set2 _ _) Tryz.underlying24 rfl (by kernel_rfl) rfl ⟨ret_agg2 Hc'.out, (HB.out.setCell (Nat.le_refl _) _).setCell (Nat.le_refl _) _⟩
      · have e1 : (op != 37) = true := by simp; omega
        have e2 : (op != 45) = true := by simp; omega
        have Hc' : Hid (checkS ms = (5, (k : Int) - 1)) := Lib.hid (by rw [Hc.out, if_neg h37, HL.out])
        clear h37 Hc
        go_wp2_with fail
        exact end_cell rfl rfl (HK.out.set2 _ _) Tryz.underlying24 rfl (by kernel_rfl) rfl ⟨ret_agg2 Hc'.out, (HB.out.setCell (Nat.le_refl _) _).setCell (Nat.le_refl _) _⟩
end Go.Proofs.YtdldochhondifaaGreatDoor
namespace Go.Proofs.YtdldochhondifaaGreatDoor
open Go.RowKit

theorem infoInt : (Tryz.prog.info? 3).map (fun i => (i.zero, i.size, i.bytes)) = some (some (.int .i64 0), 1, 8) := by kernel_rfl
/-- The call owns the slice v, which reads as xs. -/
def OwnInts (w : World) (base : Nat) (v : Value) (xs : List Int) : Prop := w.ownsRow base 3 1 v xs.length (xs.map (Value.int .i64))
theorem OwnInts.nil (w : World) (base : Nat) : OwnInts w base (.slice none 0 0) [] := World.ownsRow_nil w base 3 1
theorem OwnInts.ints {w : World} {base : Nat} {v : Value} {xs : List Int} (h : OwnInts w base v xs) : IntsAt w w.heap.size v xs := by
  have hc := fun {g : Nat} (hg : v.ownBlock = some g) => World.ownsRow.cells h hg
  rcases h.2 with ⟨rfl, hn⟩ | ⟨g, cap, cur, rfl, _, hgg, hnc, hcm, _, _⟩
  · exact ⟨none, 0, by rw [hn], by omega, by omega, fun h => by omega⟩
  · refine ⟨some ⟨g, 0, none⟩, cap, rfl, hnc, by unfold maxLen at hcm; omega, fun _ => ⟨g, 0, rfl, ?_, fun k x hk => ?_⟩⟩
    · rcases Nat.lt_or_ge g w.heap.size with h | h
      · exact h
      · rw [Array.getElem?_eq_none h] at hgg; cases hgg
    · have := hc (g := g) rfl k (.int .i64 x) (by rw [List.getElem?_map, hk]; rfl)
      rw [← this]
      unfold Addr.add
      split <;> simp_all
theorem OwnInts.below {w w' : World} {base B : Nat} {v : Value} {xs : List Int} (h : OwnInts w base v xs) (hb : Below B w w') (hB : B = w.heap.size) : OwnInts w' base v xs := by
  refine World.ownsRow.kept (row := none) h ⟨hb.os, hb.tape, hb.output, hb.size, fun k hk _ => hb.block k (by omega)⟩ ?_
  cases v.ownBlock <;> simp
theorem own_block_ge {w : World} {base : Nat} {e : TypeId} {size n : Nat} {v : Value} {xs : List Value} (h : w.ownsRow base e size v n xs) : ∀ k, v.ownBlock = some k → base ≤ k := by
  intro k hk
  rcases h.2 with ⟨rfl, _⟩ | ⟨g, cap, cur, rfl, hb, _⟩
  · simp [Value.ownBlock] at hk
  · simp [Value.ownBlock] at hk
    omega

end Go.Proofs.YtdldochhondifaaGreatDoor
namespace Go.Proofs.YtdldochhondifaaGreatDoor
open Go.RowKit

theorem below_drewN {B : Nat} {a w : World} (h : Below B a w) (n : Nat) : Below B a (w.drewN n) := ⟨h.os, h.tape, h.output, h.size, h.block⟩
/-- The registers that it speaks of are in their range. -/
def RegsOk (m : Mac) : Prop := (shD m.op = true → 0 ≤ m.dst ∧ m.dst < 16) ∧ (shA m.op = true → 0 ≤ m.a ∧ m.a < 16) ∧ (shB m.op = true → 0 ≤ m.b ∧ m.b < 16)
theorem regs_of_fault (m : Mac) (many : Int) (h : faultS m many = 0) : isOp m.op = true ∧ RegsOk m := by
  have ho : isOp m.op = true := by
    by_cases ho : isOp m.op = true
    · exact ho
    · unfold faultS at h; rw [if_neg ho] at h; cases h
  refine ⟨ho, ?_⟩
  rw [fault_of m many ho] at h
  simp only [field_3] at h
  split at h
  · cases h
  · rename_i hn
    refine ⟨fun hd => ?_, fun ha => ?_, fun hb => ?_⟩
    · by_cases hh : 0 ≤ m.dst ∧ m.dst ≤ 15
      · omega
      · exact absurd (Or.inl ⟨hd, hh⟩) hn
    · by_cases hh : 0 ≤ m.a ∧ m.a ≤ 15
      · omega
      · exact absurd (Or.inr (Or.inl ⟨ha, hh⟩)) hn
    · by_cases hh : 0 ≤ m.b ∧ m.b ≤ 15
      · omega
      · exact absurd (Or.inr (Or.inr (Or.inl ⟨hb, hh⟩))) hn
end Go.Proofs.YtdldochhondifaaGreatDoor
namespace Go.Proofs.YtdldochhondifaaGreatDoor
open Go.RowKit

theorem OwnInts.set {w : World} {base : Nat} {v : Value} {xs : List Int} (h : OwnInts w base v xs) {b o : Nat} (hb : b < base) (u : Value) : OwnInts (w.setCell ⟨b, o, none⟩ u) base v xs :=
  ownsRow_setCell_below (a := ⟨b, o, none⟩) h hb u

end Go.Proofs.YtdldochhondifaaGreatDoor
namespace Go.Proofs.YtdldochhondifaaGreatDoor
open Go.RowKit

theorem fld_ok (op : Int) : (fldS op).size ≤ 9223372036854775807 := by have := fld_size op; omega
end Go.Proofs.YtdldochhondifaaGreatDoor
namespace Go.Proofs.YtdldochhondifaaGreatDoor
open Go.RowKit
end Go.Proofs.YtdldochhondifaaGreatDoor
namespace Go.Proofs.YtdldochhondifaaGreatDoor
open Go.RowKit
end Go.Proofs.YtdldochhondifaaGreatDoor
