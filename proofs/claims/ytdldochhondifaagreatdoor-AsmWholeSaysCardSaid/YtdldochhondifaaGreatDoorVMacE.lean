/-
  Texts of the claim AsmWholeSays (MacE): what each proves stands at its theorems.
  Conditions: as the theorems say.
-/
import Derived.Test.YtdldochhondifaaGreatDoorVMacC
import Derived.Test.YtdldochhondifaaGreatDoorVIng
namespace Go.Proofs.YtdldochhondifaaGreatDoor
open Go.RowKit
attribute [local go_sem] sureUpon

/-- The four codes of an instruction's fields. -/
def codesS (m : Mac) (many : Int) : List Int := [fieldS (shD m.op) m.dst, fieldS (shA m.op) m.a, fieldS (shB m.op) m.b, numberS (shK m.op) m.n many]
/-- What is wrong with an instruction in a list of so many; 0: nothing. -/
def faultS (m : Mac) (many : Int) : Int :=
  if isOp m.op = true then (if (3 : Int) ∈ codesS m many then 3 else maxS (fieldS (shD m.op) m.dst) [fieldS (shA m.op) m.a, fieldS (shB m.op) m.b, numberS (shK m.op) m.n many]) else 4
theorem ints_alloc (w : World) (B : Nat) (hB : w.heap.size < B) (c0 c1 c2 c3 : Int) (t : TypeId) :
    IntsAt (w.alloc (.cells #[.int .i64 c0, .int .i64 c1, .int .i64 c2, .int .i64 c3] t)) B (.slice (some ⟨w.heap.size, 0, none⟩) 4 4) [c0, c1, c2, c3] := by
  refine ⟨_, 4, rfl, by simp, by omega, fun _ => ⟨_, _, rfl, hB, fun k x hk => ?_⟩⟩
  rw [Nat.zero_add, World.cell?_alloc_new]
  match k, hk with
  | 0, h => cases h; rfl
  | 1, h => cases h; rfl
  | 2, h => cases h; rfl
  | 3, h => cases h; rfl
  | (n + 4), h => simp at h

set_option maxRecDepth 100000 in
set_option maxHeartbeats 1000000 in
theorem fault_any (op dst a b n many : Int) (w : World) (ht : Tab w) :
    Calls Tryz.prog 67 #[.agg #[.int .i64 op, .int .i64 dst, .int .i64 a, .int .i64 b, .int .i64 n], .int .i64 many] w fun e w' => e = .returned (.int .i64 (faultS ⟨op, dst, a, b, n⟩ many)) ∧ Below w.heap.size w w' := by
  have HT := Lib.hid ht
  clear ht
  by_cases ho : isOp op = true
  · have HO := Lib.hid ho
    clear ho
    go_enter Tryz.func67, Tryz.ntmps67
    go_wp2_with fail
    refine (Of_any _ _ (HT.out.own ((Below.refl _ _).alloc (Nat.le_refl _) _))).mono ?_
    rintro e w1 ⟨rfl, hb1⟩
    rw [HO.out]
    have hz : w.heap.size < w1.heap.size := by have := hb1.size; simp at this; omega
    have c0 : w1.cell? ⟨w.heap.size, 0, none⟩ = some (.int .i64 op) := by rw [bcell hb1 (by simp)]; simp
    have c1 : w1.cell? ⟨w.heap.size, 1, none⟩ = some (.int .i64 dst) := by rw [bcell hb1 (by simp)]; simp
    have c2 : w1.cell? ⟨w.heap.size, 2, none⟩ = some (.int .i64 a) := by rw [bcell hb1 (by simp)]; simp
    have c3 : w1.cell? ⟨w.heap.size, 3, none⟩ = some (.int .i64 b) := by rw [bcell hb1 (by simp)]; simp
    have c4 : w1.cell? ⟨w.heap.size, 4, none⟩ = some (.int .i64 n) := by rw [bcell hb1 (by simp)]; simp
    go_wp2_with fail
    obtain ⟨W1, hW1⟩ : ∃ W1 : World, W1 = (w1.alloc (.cells #[.bool (shD op), .bool (shA op), .bool (shB op), .int .i64 (shK op)] 129)).drew := ⟨_, rfl⟩
    have hs1 : W1.heap.size = w1.heap.size + 1 := by rw [hW1]; simp
    have facts : ∀ (L : Array Bool) (w' : World), Stages W1 (.cells #[.int .i64 0, .int .i64 0, .int .i64 0, .int .i64 0] 168)
        (.cells #[.int .i64 (fieldS (shD op) dst), .int .i64 (fieldS (shA op) a), .int .i64 (fieldS (shB op) b), .int .i64 (numberS (shK op) n many)] 168) 22 23 L w' →
        w'.cell? ⟨w.heap.size, 1, none⟩ = some (.int .i64 dst) ∧ w'.cell? ⟨w.heap.size, 2, none⟩ = some (.int .i64 a) ∧ w'.cell? ⟨w.heap.size, 3, none⟩ = some (.int .i64 b) ∧ w'.cell? ⟨w.heap.size, 4, none⟩ = some (.int .i64 n) ∧
        w'.cell? ⟨w1.heap.size, 0, none⟩ = some (.bool (shD op)) ∧ w'.cell? ⟨w1.heap.size, 1, none⟩ = some (.bool (shA op)) ∧ w'.cell? ⟨w1.heap.size, 2, none⟩ = some (.bool (shB op)) ∧ w'.cell? ⟨w1.heap.size, 3, none⟩ = some (.int .i64 (shK op)) := by
      intro L w' hC
      have e1 : ∀ o, w'.cell? ⟨w.heap.size, o, none⟩ = w1.cell? ⟨w.heap.size, o, none⟩ := fun o => by
        rw [hC.cell (by omega), hW1]; exact World.cell?_alloc_lt w1 _ ⟨w.heap.size, o, none⟩ hz
      have e2 : ∀ o, w'.cell? ⟨w1.heap.size, o, none⟩ = (#[.bool (shD op), .bool (shA op), .bool (shB op), .int .i64 (shK op)] : Array Value)[o]? := fun o => by
        rw [hC.cell (by omega), hW1]; exact World.cell?_alloc_new w1 _ _ _
      rw [e1, e1, e1, e1, e2, e2, e2, e2]
      exact ⟨c1, c2, c3, c4, rfl, rfl, rfl, rfl⟩
    have HF := Lib.hid facts
    clear facts
    refine wp_region_lex (Stages W1 (.cells #[.int .i64 0, .int .i64 0, .int .i64 0, .int .i64 0] 168)
        (.cells #[.int .i64 (fieldS (shD op) dst), .int .i64 (fieldS (shA op) a), .int .i64 (fieldS (shB op) b), .int .i64 (numberS (shK op) n many)] 168) 22 23) (by kernel_rfl) (by kernel_rfl) (by rw [hW1]; exact Stages.start) ?_
    have HW := Lib.hid hW1
    clear hW1 c0 c1 c2 c3 c4
    iterate 4
      apply wpLex_step
      · rfl
      · intro L w' hC hL hd
        clear hd
        have F := HF.out L w' hC
        have HC := Lib.hid hC
        clear hC
        go_simp
        exact ⟨HC.out.keep _ (by decide) (by decide), rfl⟩
      simp only [Act.put, List.setIfInBounds_toArray, List.set_cons_succ, List.set_cons_zero, Nat.reduceAdd]
    apply wpLex_step
    · rfl
    · intro L w' hC hL hd
      clear hd
      have HC := Lib.hid hC
      clear hC
      go_simp
      exact (field_any _ _ _).mono fun _ _ h => ⟨h.1, h.2 ▸ HC.out.keep _ (by decide) (by decide)⟩
    simp only [Act.put, List.setIfInBounds_toArray, List.set_cons_succ, List.set_cons_zero, Nat.reduceAdd]
    iterate 4
      apply wpLex_step
      · rfl
      · intro L w' hC hL hd
        clear hd
        have F := HF.out L w' hC
        have HC := Lib.hid hC
        clear hC
        go_simp
        exact ⟨HC.out.keep _ (by decide) (by decide), rfl⟩
      simp only [Act.put, List.setIfInBounds_toArray, List.set_cons_succ, List.set_cons_zero, Nat.reduceAdd]
    apply wpLex_step
    · rfl
    · intro L w' hC hL hd
      clear hd
      have HC := Lib.hid hC
      clear hC
      go_simp
      exact (field_any _ _ _).mono fun _ _ h => ⟨h.1, h.2 ▸ HC.out.keep _ (by decide) (by decide)⟩
    simp only [Act.put, List.setIfInBounds_toArray, List.set_cons_succ, List.set_cons_zero, Nat.reduceAdd]
    iterate 4
      apply wpLex_step
      · rfl
      · intro L w' hC hL hd
        clear hd
        have F := HF.out L w' hC
        have HC := Lib.hid hC
        clear hC
        go_simp
        exact ⟨HC.out.keep _ (by decide) (by decide), rfl⟩
      simp only [Act.put, List.setIfInBounds_toArray, List.set_cons_succ, List.set_cons_zero, Nat.reduceAdd]
    apply wpLex_step
    · rfl
    · intro L w' hC hL hd
      clear hd
      have HC := Lib.hid hC
      clear hC
      go_simp
      exact (field_any _ _ _).mono fun _ _ h => ⟨h.1, h.2 ▸ HC.out.keep _ (by decide) (by decide)⟩
    simp only [Act.put, List.setIfInBounds_toArray, List.set_cons_succ, List.set_cons_zero, Nat.reduceAdd]
    iterate 5
      apply wpLex_step
      · rfl
      · intro L w' hC hL hd
        clear hd
        have F := HF.out L w' hC
        have HC := Lib.hid hC
        clear hC
        go_simp
        exact ⟨HC.out.keep _ (by decide) (by decide), rfl⟩
      simp only [Act.put, List.setIfInBounds_toArray, List.set_cons_succ, List.set_cons_zero, Nat.reduceAdd]
    apply wpLex_step
    · rfl
    · intro L w' hC hL hd
      clear hd
      have HC := Lib.hid hC
      clear hC
      go_simp
      exact (number_any _ _ _ _).mono fun _ _ h => ⟨h.1, h.2 ▸ HC.out.keep _ (by decide) (by decide)⟩
    simp only [Act.put, List.setIfInBounds_toArray, List.set_cons_succ, List.set_cons_zero, Nat.reduceAdd]
    iterate 1
      apply wpLex_step
      · rfl
      · intro L w' hC hL hd
        clear hd
        have F := HF.out L w' hC
        have HC := Lib.hid hC
        clear hC
        go_simp
        exact ⟨HC.out.keep _ (by decide) (by decide), rfl⟩
      simp only [Act.put, List.setIfInBounds_toArray, List.set_cons_succ, List.set_cons_zero, Nat.reduceAdd]
    apply wpLex_step
    · rfl
    · intro L w' hC hL hd
      have hs := (hC.atAlloc hL).2
      have hw := (hC.atAlloc hL).1
      subst hw
      have HS := Lib.hid hs
      have HL := Lib.hid hL
      clear hC hd hs hL
      go_simp
      exact ⟨Stages.afterAlloc (by decide) HL.out HS.out, rfl⟩
    simp only [Act.put, List.setIfInBounds_toArray, List.set_cons_succ, List.set_cons_zero, Nat.reduceAdd]
    apply wpLex_step
    · rfl
    · intro L w' hC hL hd
      have ha : L.getD 22 false = true := hd ⟨22, .data⟩ (by simp) rfl
      have hw := hC.atStore hL ha
      subst hw
      have HA := Lib.hid ha
      have HL := Lib.hid hL
      clear hC hd ha hL
      go_simp
      exact ⟨Stages.afterStore (by decide) HL.out HA.out, rfl⟩
    refine wpLex_nil ?_
    intro L w' hC hL
    have hw := hC.end_ (hL 23 (by decide))
    subst hw
    clear hC hL
    have hz1 : w.heap.size < W1.heap.size := by omega
    have hi := ints_alloc W1 (W1.heap.size + 1) (by omega) (fieldS (shD op) dst) (fieldS (shA op) a) (fieldS (shB op) b) (numberS (shK op) n many) 168
    rw [hs1] at hi
    have HI := Lib.hid hi
    clear hi
    have HB : Hid (Below w.heap.size w (W1.alloc (.cells #[.int .i64 (fieldS (shD op) dst), .int .i64 (fieldS (shA op) a), .int .i64 (fieldS (shB op) b), .int .i64 (numberS (shK op) n many)] 168))) := by
      refine Lib.hid ?_
      rw [HW.out]
      exact (((((Below.refl _ _).alloc (Nat.le_refl _) _).trans (hb1.mono (by simp))).alloc (by omega) _).drew).alloc (by simp; omega) _
    clear hb1 hs1
    have HF1 : Hid (faultS ⟨op, dst, a, b, n⟩ many = if (3 : Int) ∈ codesS ⟨op, dst, a, b, n⟩ many then 3 else maxS (fieldS (shD op) dst) [fieldS (shA op) a, fieldS (shB op) b, numberS (shK op) n many]) := by
      refine Lib.hid ?_
      unfold faultS
      rw [if_pos HO.out]
    by_cases h3 : (3 : Int) ∈ codesS ⟨op, dst, a, b, n⟩ many
    · have H3 := Lib.hid h3
      clear h3
      go_wp2_with (go_at_call 117; refine (Contains_any _ _ _ _ _ HI.out).mono ?_; rintro e w' ⟨rfl, rfl⟩; rw [show decide ((3 : Int) ∈ [fieldS (shD op) dst, fieldS (shA op) a, fieldS (shB op) b, numberS (shK op) n many]) = true from by simpa [codesS] using H3.out])
      go_ret
      exact ⟨ret_int (by rw [HF1.out, if_pos H3.out]), HB.out⟩
    · have H3 := Lib.hid h3
      clear h3
      go_wp2_with (first | (go_at_call 117; refine (Contains_any _ _ _ _ _ HI.out).mono ?_; rintro e w' ⟨rfl, rfl⟩; rw [show decide ((3 : Int) ∈ [fieldS (shD op) dst, fieldS (shA op) a, fieldS (shB op) b, numberS (shK op) n many]) = false from by simpa [codesS] using H3.out]) | (go_at_call 118; refine (Max_any _ _ _ _ _ HI.out).mono ?_; rintro e w' ⟨rfl, rfl⟩))
      go_ret
      exact ⟨ret_int (by rw [HF1.out, if_neg H3.out]), HB.out⟩
  · have HO := Lib.hid (by simpa using ho : isOp op = false)
    have HF1 : Hid (faultS ⟨op, dst, a, b, n⟩ many = 4) := by
      refine Lib.hid ?_
      unfold faultS
      rw [if_neg ho]
    clear ho
    go_enter Tryz.func67, Tryz.ntmps67
    go_wp2_with fail
    refine (Of_any _ _ (HT.out.own ((Below.refl _ _).alloc (Nat.le_refl _) _))).mono ?_
    rintro e w1 ⟨rfl, hb1⟩
    rw [HO.out]
    go_wp2_with fail
    go_ret
    exact ⟨ret_int HF1.out.symm, (((Below.refl _ _).alloc (Nat.le_refl _) _).trans (hb1.mono (by simp))).alloc (by have := hb1.size; simp at this; omega) _⟩
end Go.Proofs.YtdldochhondifaaGreatDoor
namespace Go.Proofs.YtdldochhondifaaGreatDoor
open Go.RowKit

theorem isOp_iff (op : Int) : isOp op = true ↔ 1 ≤ op ∧ op ≤ 47 := by unfold isOp; simp
/-- Each Op's letters: at most one of n, t, w, r stands among them; of an Op that is none no letter does. -/
theorem fld_cases (op : Int) (h : isOp op = true) : ((fldS op).toList == [63]) = false ∧
    ((hasS (fldS op) 110 = true ∧ hasS (fldS op) 116 = false ∧ hasS (fldS op) 119 = false ∧ hasS (fldS op) 114 = false ∧ shK op = 1) ∨
     (hasS (fldS op) 110 = false ∧ hasS (fldS op) 116 = true ∧ hasS (fldS op) 119 = false ∧ hasS (fldS op) 114 = false ∧ shK op = 2) ∨
     (hasS (fldS op) 110 = false ∧ hasS (fldS op) 116 = false ∧ hasS (fldS op) 119 = true ∧ hasS (fldS op) 114 = false ∧ shK op = 3) ∨
     (hasS (fldS op) 110 = false ∧ hasS (fldS op) 116 = false ∧ hasS (fldS op) 119 = false ∧ hasS (fldS op) 114 = true ∧ shK op = 4) ∨
     (hasS (fldS op) 110 = false ∧ hasS (fldS op) 116 = false ∧ hasS (fldS op) 119 = false ∧ hasS (fldS op) 114 = false ∧ shK op = 0)) := by
  rw [isOp_iff] at h
  have key : ∀ k : Fin 48, 1 ≤ k.val → ((fldS (k.val : Int)).toList == [63]) = false ∧
    ((hasS (fldS (k.val : Int)) 110 = true ∧ hasS (fldS (k.val : Int)) 116 = false ∧ hasS (fldS (k.val : Int)) 119 = false ∧ hasS (fldS (k.val : Int)) 114 = false ∧ shK (k.val : Int) = 1) ∨
     (hasS (fldS (k.val : Int)) 110 = false ∧ hasS (fldS (k.val : Int)) 116 = true ∧ hasS (fldS (k.val : Int)) 119 = false ∧ hasS (fldS (k.val : Int)) 114 = false ∧ shK (k.val : Int) = 2) ∨
     (hasS (fldS (k.val : Int)) 110 = false ∧ hasS (fldS (k.val : Int)) 116 = false ∧ hasS (fldS (k.val : Int)) 119 = true ∧ hasS (fldS (k.val : Int)) 114 = false ∧ shK (k.val : Int) = 3) ∨
     (hasS (fldS (k.val : Int)) 110 = false ∧ hasS (fldS (k.val : Int)) 116 = false ∧ hasS (fldS (k.val : Int)) 119 = false ∧ hasS (fldS (k.val : Int)) 114 = true ∧ shK (k.val : Int) = 4) ∨
     (hasS (fldS (k.val : Int)) 110 = false ∧ hasS (fldS (k.val : Int)) 116 = false ∧ hasS (fldS (k.val : Int)) 119 = false ∧ hasS (fldS (k.val : Int)) 114 = false ∧ shK (k.val : Int) = 0)) := by
    decide +kernel
  have := key ⟨op.toNat, by omega⟩ (by simp; omega)
  simp only [show ((op.toNat : Nat) : Int) = op from by omega] at this
  exact this
theorem fld_size (op : Int) : (fldS op).size ≤ 3 := by
  show (fldL op).length ≤ 3
  unfold fldL
  (repeat' split) <;> try decide
  have h : ∀ (l : List (List UInt8)) (k : Nat), (∀ x ∈ l, x.length ≤ 3) → (l.getD k []).length ≤ 3 := by
    intro l k hl
    rw [List.getD_eq_getElem?_getD]
    cases hh : l[k]? with
    | none => simp
    | some x => exact hl x (List.mem_of_getElem? hh)
  exact h _ _ (by decide)
theorem fld_q (op : Int) (h : isOp op = false) : ((fldS op).toList == [63]) = true := by
  have : ¬ (1 ≤ op ∧ op ≤ 47) := by rw [← isOp_iff, h]; simp
  rw [fld_lo op (by omega)]; decide +kernel

theorem field_val (u : Bool) (r : Int) : fieldS u r = 0 ∨ fieldS u r = 3 ∨ fieldS u r = 5 := by unfold fieldS; split <;> split <;> simp
theorem number_val (k n m : Int) : numberS k n m = 0 ∨ numberS k n m = 3 ∨ numberS k n m = 5 := by unfold numberS; (repeat' split) <;> simp
theorem fault_of (m : Mac) (many : Int) (h : isOp m.op = true) : faultS m many =
    if fieldS (shD m.op) m.dst = 3 ∨ fieldS (shA m.op) m.a = 3 ∨ fieldS (shB m.op) m.b = 3 ∨ numberS (shK m.op) m.n many = 3 then 3
    else if fieldS (shD m.op) m.dst = 5 ∨ fieldS (shA m.op) m.a = 5 ∨ fieldS (shB m.op) m.b = 5 ∨ numberS (shK m.op) m.n many = 5 then 5 else 0 := by
  unfold faultS codesS
  rw [if_pos h]
  rcases field_val (shD m.op) m.dst with h1 | h1 | h1 <;> rcases field_val (shA m.op) m.a with h2 | h2 | h2 <;> rcases field_val (shB m.op) m.b with h3 | h3 | h3 <;>
    rcases number_val (shK m.op) m.n many with h4 | h4 | h4 <;> rw [h1, h2, h3, h4] <;> decide

/-- Has one of the first k registers, that is not spoken of, a number? -/
def formS (m : Mac) (k : Nat) : Bool :=
  (decide (0 < k) && !shD m.op && decide (m.dst ≠ 0)) || (decide (1 < k) && !shA m.op && decide (m.a ≠ 0)) || (decide (2 < k) && !shB m.op && decide (m.b ≠ 0))
/-- Are the first k registers that are spoken of in their range? -/
def goodS (m : Mac) (k : Nat) : Prop :=
  (0 < k → shD m.op = true → 0 ≤ m.dst ∧ m.dst ≤ 15) ∧ (1 < k → shA m.op = true → 0 ≤ m.a ∧ m.a ≤ 15) ∧ (2 < k → shB m.op = true → 0 ≤ m.b ∧ m.b ≤ 15)
theorem fault_bad (m : Mac) (many : Int) (h : isOp m.op = true) (hb : (shD m.op = true ∧ ¬ (0 ≤ m.dst ∧ m.dst ≤ 15)) ∨ (shA m.op = true ∧ ¬ (0 ≤ m.a ∧ m.a ≤ 15)) ∨ (shB m.op = true ∧ ¬ (0 ≤ m.b ∧ m.b ≤ 15))) : faultS m many = 3 := by
  rw [fault_of m many h, if_pos]
  unfold fieldS
  rcases hb with ⟨h1, h2⟩ | ⟨h1, h2⟩ | ⟨h1, h2⟩
  · left; rw [h1, if_pos rfl, if_pos (by omega)]
  · right; left; rw [h1, if_pos rfl, if_pos (by omega)]
  · right; right; left; rw [h1, if_pos rfl, if_pos (by omega)]
theorem fault_num (m : Mac) (many : Int) (h : isOp m.op = true) (hb : numberS (shK m.op) m.n many = 3) : faultS m many = 3 := by
  rw [fault_of m many h, if_pos (Or.inr (Or.inr (Or.inr hb)))]
theorem field_3 (u : Bool) (r : Int) : fieldS u r = 3 ↔ u = true ∧ ¬ (0 ≤ r ∧ r ≤ 15) := by
  unfold fieldS
  cases u
  · simp; split <;> simp
  · simp; omega
theorem field_5 (u : Bool) (r : Int) : fieldS u r = 5 ↔ u = false ∧ r ≠ 0 := by
  unfold fieldS
  cases u
  · simp
  · simp; split <;> simp
theorem fault_end (m : Mac) (many : Int) (h : isOp m.op = true) (hg : goodS m 3) (hn : numberS (shK m.op) m.n many ≠ 3) :
    faultS m many = if (formS m 3 || decide (numberS (shK m.op) m.n many = 5)) = true then 5 else 0 := by
  obtain ⟨g1, g2, g3⟩ := hg
  rw [fault_of m many h]
  simp only [field_3, field_5]
  rw [if_neg (by
    rintro (⟨h1, h2⟩ | ⟨h1, h2⟩ | ⟨h1, h2⟩ | h1)
    · exact h2 (g1 (by omega) h1)
    · exact h2 (g2 (by omega) h1)
    · exact h2 (g3 (by omega) h1)
    · exact hn h1)]
  have e : (shD m.op = false ∧ m.dst ≠ 0 ∨ shA m.op = false ∧ m.a ≠ 0 ∨ shB m.op = false ∧ m.b ≠ 0 ∨ numberS (shK m.op) m.n many = 5) ↔ (formS m 3 || decide (numberS (shK m.op) m.n many = 5)) = true := by
    unfold formS
    simp [or_assoc]
  by_cases hB : (formS m 3 || decide (numberS (shK m.op) m.n many = 5)) = true
  · rw [if_pos hB, if_pos (e.2 hB)]
  · rw [if_neg hB, if_neg (fun h' => hB (e.1 h'))]

set_option maxRecDepth 100000 in
set_option maxHeartbeats 2000000 in
theorem macFault_any (op dst a b n many : Int) (w : World) :
    Calls Tryz.prog 74 #[.agg #[.int .i64 op, .int .i64 dst, .int .i64 a, .int .i64 b, .int .i64 n], .int .i64 many] w fun e w' => e = .returned (.int .i64 (faultS ⟨op, dst, a, b, n⟩ many)) ∧ Below w.heap.size w w' := by
  by_cases ho : isOp op = true
  · obtain ⟨hq, hk⟩ := fld_cases op ho
    have HK := Lib.hid hk
    have HO := Lib.hid ho
    clear ho hk
    have hsz : (fldS op).size ≤ 9223372036854775807 := by
      have := fld_size op
      omega
    have HZ := Lib.hid hsz
    clear hsz
    go_enter Tryz.func74, Tryz.ntmps74
    go_wp2_with fail
    refine (Fields_any _ _).mono ?_
    rintro e w1 ⟨rfl, hb1⟩
    have hz : w.heap.size < w1.heap.size := by have := hb1.size; simp at this; omega
    have c1 : w1.cell? ⟨w.heap.size, 1, none⟩ = some (.int .i64 dst) := by rw [bcell hb1 (by simp)]; simp
    have c2 : w1.cell? ⟨w.heap.size, 2, none⟩ = some (.int .i64 a) := by rw [bcell hb1 (by simp)]; simp
    have c3 : w1.cell? ⟨w.heap.size, 3, none⟩ = some (.int .i64 b) := by rw [bcell hb1 (by simp)]; simp
    have c4 : w1.cell? ⟨w.heap.size, 4, none⟩ = some (.int .i64 n) := by rw [bcell hb1 (by simp)]; simp
    have HB : Hid (Below w.heap.size w (w1.alloc (.cells #[.int .i64 dst, .int .i64 a, .int .i64 b] 3))) :=
      Lib.hid ((((Below.refl _ _).alloc (Nat.le_refl _) _).trans (hb1.mono (by simp))).alloc (by omega) _)
    clear hb1
    go_wp2_with fail
    go_loop [8, 7] (fun i f => ∃ k : Nat, k ≤ 3 ∧ i = .int .i64 k ∧ f = .bool (formS ⟨op, dst, a, b, n⟩ k) ∧ Hid (goodS ⟨op, dst, a, b, n⟩ k)) (fun i _ => 3 - (intOf i).toNat)
    case atStart => exact ⟨0, by omega, rfl, rfl, Lib.hid ⟨fun h => absurd h (by omega), fun h => absurd h (by omega), fun h => absurd h (by omega)⟩⟩
    case round =>
      obtain ⟨k, hk, rfl, rfl, HG⟩ := hrel
      rcases (by omega : k = 0 ∨ k = 1 ∨ k = 2 ∨ k = 3) with rfl | rfl | rfl | rfl
      · by_cases hu : shD op = true
        · have HU := Lib.hid hu
          by_cases hr : dst < 0 ∨ 15 < dst
          · have Hf : Hid (faultS ⟨op, dst, a, b, n⟩ many = 3) := Lib.hid (fault_bad _ _ HO.out ((Or.inl) ⟨hu, by show ¬ (0 ≤ dst ∧ dst ≤ 15); omega⟩))
            clear hu
            rcases hr with hr | hr
            all_goals
              go_wp2_with (go_at_call 76; refine (Has_any (fldS op) 100 _ HZ.out).mono ?_; rintro e w' ⟨rfl, rfl⟩; rw [show hasS (fldS op) 100 = true from HU.out])
              go_ret
              exact ⟨ret_int Hf.out.symm, HB.out⟩
          · have h0 : 0 ≤ dst := by omega
            have h15 : dst ≤ 15 := by omega
            clear hu hr
            go_wp2_with (go_at_call 76; refine (Has_any (fldS op) 100 _ HZ.out).mono ?_; rintro e w' ⟨rfl, rfl⟩; rw [show hasS (fldS op) 100 = true from HU.out])
            go_round
            case rel => exact ⟨1, by omega, rfl, congrArg Value.bool (by simp [formS, HU.out]), Lib.hid ⟨fun _ _ => ⟨by omega, by omega⟩, fun h => absurd h (by omega), fun h => absurd h (by omega)⟩⟩
            case measure => simp [intOf]
        · have HU := Lib.hid (by simpa using hu : shD op = false)
          clear hu
          by_cases hr : dst = 0
          · have hb : (dst != 0) = false := by simp [hr]
            have HR := Lib.hid hr
            clear hr
            go_wp2_with (go_at_call 76; refine (Has_any (fldS op) 100 _ HZ.out).mono ?_; rintro e w' ⟨rfl, rfl⟩; rw [show hasS (fldS op) 100 = false from HU.out])
            go_round
            case rel => exact ⟨1, by omega, rfl, congrArg Value.bool (by simp [formS, HU.out, HR.out]), Lib.hid ⟨fun _ h => absurd (h.symm.trans HU.out) (by simp), fun h => absurd h (by omega), fun h => absurd h (by omega)⟩⟩
            case measure => simp [intOf]
          · have hb : (dst != 0) = true := by simp [hr]
            have HR := Lib.hid hr
            clear hr
            go_wp2_with (go_at_call 76; refine (Has_any (fldS op) 100 _ HZ.out).mono ?_; rintro e w' ⟨rfl, rfl⟩; rw [show hasS (fldS op) 100 = false from HU.out])
            go_round
            case rel => exact ⟨1, by omega, rfl, congrArg Value.bool (by simp [formS, HU.out, HR.out]), Lib.hid ⟨fun _ h => absurd (h.symm.trans HU.out) (by simp), fun h => absurd h (by omega), fun h => absurd h (by omega)⟩⟩
            case measure => simp [intOf]
      · by_cases hu : shA op = true
        · have HU := Lib.hid hu
          by_cases hr : a < 0 ∨ 15 < a
          · have Hf : Hid (faultS ⟨op, dst, a, b, n⟩ many = 3) := Lib.hid (fault_bad _ _ HO.out ((fun h => Or.inr (Or.inl h)) ⟨hu, by show ¬ (0 ≤ a ∧ a ≤ 15); omega⟩))
            clear hu
            rcases hr with hr | hr
            all_goals
              go_wp2_with (go_at_call 76; refine (Has_any (fldS op) 97 _ HZ.out).mono ?_; rintro e w' ⟨rfl, rfl⟩; rw [show hasS (fldS op) 97 = true from HU.out])
              go_ret
              exact ⟨ret_int Hf.out.symm, HB.out⟩
          · have h0 : 0 ≤ a := by omega
            have h15 : a ≤ 15 := by omega
            clear hu hr
            go_wp2_with (go_at_call 76; refine (Has_any (fldS op) 97 _ HZ.out).mono ?_; rintro e w' ⟨rfl, rfl⟩; rw [show hasS (fldS op) 97 = true from HU.out])
            go_round
            case rel => exact ⟨2, by omega, rfl, congrArg Value.bool (by simp [formS, HU.out]), Lib.hid ⟨fun h h' => HG.out.1 (by omega) h', fun _ _ => ⟨by omega, by omega⟩, fun h => absurd h (by omega)⟩⟩
            case measure => simp [intOf]
        · have HU := Lib.hid (by simpa using hu : shA op = false)
          clear hu
          by_cases hr : a = 0
          · have hb : (a != 0) = false := by simp [hr]
            have HR := Lib.hid hr
            clear hr
            go_wp2_with (go_at_call 76; refine (Has_any (fldS op) 97 _ HZ.out).mono ?_; rintro e w' ⟨rfl, rfl⟩; rw [show hasS (fldS op) 97 = false from HU.out])
            go_round
            case rel => exact ⟨2, by omega, rfl, congrArg Value.bool (by simp [formS, HU.out, HR.out]), Lib.hid ⟨fun h h' => HG.out.1 (by omega) h', fun _ h => absurd (h.symm.trans HU.out) (by simp), fun h => absurd h (by omega)⟩⟩
            case measure => simp [intOf]
          · have hb : (a != 0) = true := by simp [hr]
            have HR := Lib.hid hr
            clear hr
            go_wp2_with (go_at_call 76; refine (Has_any (fldS op) 97 _ HZ.out).mono ?_; rintro e w' ⟨rfl, rfl⟩; rw [show hasS (fldS op) 97 = false from HU.out])
            go_round
            case rel => exact ⟨2, by omega, rfl, congrArg Value.bool (by simp [formS, HU.out, HR.out]), Lib.hid ⟨fun h h' => HG.out.1 (by omega) h', fun _ h => absurd (h.symm.trans HU.out) (by simp), fun h => absurd h (by omega)⟩⟩
            case measure => simp [intOf]
      · by_cases hu : shB op = true
        · have HU := Lib.hid hu
          by_cases hr : b < 0 ∨ 15 < b
          · have Hf : Hid (faultS ⟨op, dst, a, b, n⟩ many = 3) := Lib.hid (fault_bad _ _ HO.out ((fun h => Or.inr (Or.inr h)) ⟨hu, by show ¬ (0 ≤ b ∧ b ≤ 15); omega⟩))
            clear hu
            rcases hr with hr | hr
            all_goals
              go_wp2_with (go_at_call 76; refine (Has_any (fldS op) 98 _ HZ.out).mono ?_; rintro e w' ⟨rfl, rfl⟩; rw [show hasS (fldS op) 98 = true from HU.out])
              go_ret
              exact ⟨ret_int Hf.out.symm, HB.out⟩
          · have h0 : 0 ≤ b := by omega
            have h15 : b ≤ 15 := by omega
            clear hu hr
            go_wp2_with (go_at_call 76; refine (Has_any (fldS op) 98 _ HZ.out).mono ?_; rintro e w' ⟨rfl, rfl⟩; rw [show hasS (fldS op) 98 = true from HU.out])
            go_round
            case rel => exact ⟨3, by omega, rfl, congrArg Value.bool (by simp [formS, HU.out]), Lib.hid ⟨fun h h' => HG.out.1 (by omega) h', fun h h' => HG.out.2.1 (by omega) h', fun _ _ => ⟨by omega, by omega⟩⟩⟩
            case measure => simp [intOf]
        · have HU := Lib.hid (by simpa using hu : shB op = false)
          clear hu
          by_cases hr : b = 0
          · have hb : (b != 0) = false := by simp [hr]
            have HR := Lib.hid hr
            clear hr
            go_wp2_with (go_at_call 76; refine (Has_any (fldS op) 98 _ HZ.out).mono ?_; rintro e w' ⟨rfl, rfl⟩; rw [show hasS (fldS op) 98 = false from HU.out])
            go_round
            case rel => exact ⟨3, by omega, rfl, congrArg Value.bool (by simp [formS, HU.out, HR.out]), Lib.hid ⟨fun h h' => HG.out.1 (by omega) h', fun h h' => HG.out.2.1 (by omega) h', fun _ h => absurd (h.symm.trans HU.out) (by simp)⟩⟩
            case measure => simp [intOf]
          · have hb : (b != 0) = true := by simp [hr]
            have HR := Lib.hid hr
            clear hr
            go_wp2_with (go_at_call 76; refine (Has_any (fldS op) 98 _ HZ.out).mono ?_; rintro e w' ⟨rfl, rfl⟩; rw [show hasS (fldS op) 98 = false from HU.out])
            go_round
            case rel => exact ⟨3, by omega, rfl, congrArg Value.bool (by simp [formS, HU.out, HR.out]), Lib.hid ⟨fun h h' => HG.out.1 (by omega) h', fun h h' => HG.out.2.1 (by omega) h', fun _ h => absurd (h.symm.trans HU.out) (by simp)⟩⟩
            case measure => simp [intOf]
      rcases HK.out with ⟨hn, ht, hw, hr, hk⟩ | ⟨hn, ht, hw, hr, hk⟩ | ⟨hn, ht, hw, hr, hk⟩ | ⟨hn, ht, hw, hr, hk⟩ | ⟨hn, ht, hw, hr, hk⟩
      · have Hn : Hid (numberS (shK op) n many = 0) := Lib.hid (by rw [hk]; unfold numberS; simp; try omega)
        have He : Hid (faultS ⟨op, dst, a, b, n⟩ many = if (formS ⟨op, dst, a, b, n⟩ 3 || decide ((0 : Int) = 5)) = true then 5 else 0) := Lib.hid (by
          have := fault_end ⟨op, dst, a, b, n⟩ many HO.out HG.out (by show numberS (shK op) n many ≠ 3; rw [Hn.out]; decide)
          rw [show numberS (shK (Mac.mk op dst a b n).op) (Mac.mk op dst a b n).n many = 0 from Hn.out] at this
          exact this)
        clear hk
        by_cases hF : formS ⟨op, dst, a, b, n⟩ 3 = true
        · have HF := Lib.hid hF
          rw [hF]
          clear hF
          go_wp2_with (go_at_call 76; refine (Has_any (fldS op) _ _ HZ.out).mono ?_; rintro e w' ⟨rfl, rfl⟩)
          go_ret
          exact ⟨ret_int (by rw [He.out, HF.out]; rfl), HB.out⟩
        · have HF := Lib.hid (by simpa using hF : formS ⟨op, dst, a, b, n⟩ 3 = false)
          rw [HF.out]
          clear hF
          by_cases h0 : n = 0
          · have hb : (n != 0) = false := by simp [h0]
            have H0 := Lib.hid h0
            clear h0
            go_wp2_with (go_at_call 76; refine (Has_any (fldS op) _ _ HZ.out).mono ?_; rintro e w' ⟨rfl, rfl⟩)
            go_ret
            exact ⟨ret_int (by rw [He.out, HF.out]; rfl), HB.out⟩
          · have hb : (n != 0) = true := by simp [h0]
            have H0 := Lib.hid h0
            clear h0
            go_wp2_with (go_at_call 76; refine (Has_any (fldS op) _ _ HZ.out).mono ?_; rintro e w' ⟨rfl, rfl⟩)
            go_ret
            exact ⟨ret_int (by rw [He.out, HF.out]; rfl), HB.out⟩
      · by_cases hx : n < 0 ∨ many ≤ n
        · have Hf : Hid (faultS ⟨op, dst, a, b, n⟩ many = 3) := Lib.hid (fault_num _ _ HO.out (by show numberS (shK op) n many = 3; rw [hk]; unfold numberS; simp; try omega))
          clear hk
          rcases (by omega : n < 0 ∨ (0 ≤ n ∧ many ≤ n)) with hx | ⟨hx0, hx⟩
          all_goals
            go_wp2_with (go_at_call 76; refine (Has_any (fldS op) _ _ HZ.out).mono ?_; rintro e w' ⟨rfl, rfl⟩)
            go_ret
            exact ⟨ret_int Hf.out.symm, HB.out⟩
        · have hx1 : 0 ≤ n := by omega
          have hx2 : n < many := by omega
          clear hx
          have Hn : Hid (numberS (shK op) n many = 0) := Lib.hid (by rw [hk]; unfold numberS; simp; try omega)
          have He : Hid (faultS ⟨op, dst, a, b, n⟩ many = if (formS ⟨op, dst, a, b, n⟩ 3 || decide ((0 : Int) = 5)) = true then 5 else 0) := Lib.hid (by
            have := fault_end ⟨op, dst, a, b, n⟩ many HO.out HG.out (by show numberS (shK op) n many ≠ 3; rw [Hn.out]; decide)
            rw [show numberS (shK (Mac.mk op dst a b n).op) (Mac.mk op dst a b n).n many = 0 from Hn.out] at this
            exact this)
          clear hk
          by_cases hF : formS ⟨op, dst, a, b, n⟩ 3 = true
          · have HF := Lib.hid hF
            rw [hF]
            clear hF
            go_wp2_with (go_at_call 76; refine (Has_any (fldS op) _ _ HZ.out).mono ?_; rintro e w' ⟨rfl, rfl⟩)
            go_ret
            exact ⟨ret_int (by rw [He.out, HF.out]; rfl), HB.out⟩
          · have HF := Lib.hid (by simpa using hF : formS ⟨op, dst, a, b, n⟩ 3 = false)
            rw [HF.out]
            clear hF
            by_cases h0 : n = 0
            · have hb : (n != 0) = false := by simp [h0]
              have H0 := Lib.hid h0
              clear h0
              go_wp2_with (go_at_call 76; refine (Has_any (fldS op) _ _ HZ.out).mono ?_; rintro e w' ⟨rfl, rfl⟩)
              go_ret
              exact ⟨ret_int (by rw [He.out, HF.out]; rfl), HB.out⟩
            · have hb : (n != 0) = true := by simp [h0]
              have H0 := Lib.hid h0
              clear h0
              go_wp2_with (go_at_call 76; refine (Has_any (fldS op) _ _ HZ.out).mono ?_; rintro e w' ⟨rfl, rfl⟩)
              go_ret
              exact ⟨ret_int (by rw [He.out, HF.out]; rfl), HB.out⟩
      · by_cases hx : n < 0 ∨ 119 < n
        · have Hf : Hid (faultS ⟨op, dst, a, b, n⟩ many = 3) := Lib.hid (fault_num _ _ HO.out (by show numberS (shK op) n many = 3; rw [hk]; unfold numberS; simp; try omega))
          clear hk
          rcases (by omega : n < 0 ∨ (0 ≤ n ∧ 119 < n)) with hx | ⟨hx0, hx⟩
          all_goals
            go_wp2_with (go_at_call 76; refine (Has_any (fldS op) _ _ HZ.out).mono ?_; rintro e w' ⟨rfl, rfl⟩)
            go_ret
            exact ⟨ret_int Hf.out.symm, HB.out⟩
        · have hx1 : 0 ≤ n := by omega
          have hx2 : n ≤ 119 := by omega
          clear hx
          have Hn : Hid (numberS (shK op) n many = 0) := Lib.hid (by rw [hk]; unfold numberS; simp; try omega)
          have He : Hid (faultS ⟨op, dst, a, b, n⟩ many = if (formS ⟨op, dst, a, b, n⟩ 3 || decide ((0 : Int) = 5)) = true then 5 else 0) := Lib.hid (by
            have := fault_end ⟨op, dst, a, b, n⟩ many HO.out HG.out (by show numberS (shK op) n many ≠ 3; rw [Hn.out]; decide)
            rw [show numberS (shK (Mac.mk op dst a b n).op) (Mac.mk op dst a b n).n many = 0 from Hn.out] at this
            exact this)
          clear hk
          by_cases hF : formS ⟨op, dst, a, b, n⟩ 3 = true
          · have HF := Lib.hid hF
            rw [hF]
            clear hF
            go_wp2_with (go_at_call 76; refine (Has_any (fldS op) _ _ HZ.out).mono ?_; rintro e w' ⟨rfl, rfl⟩)
            go_ret
            exact ⟨ret_int (by rw [He.out, HF.out]; rfl), HB.out⟩
          · have HF := Lib.hid (by simpa using hF : formS ⟨op, dst, a, b, n⟩ 3 = false)
            rw [HF.out]
            clear hF
            by_cases h0 : n = 0
            · have hb : (n != 0) = false := by simp [h0]
              have H0 := Lib.hid h0
              clear h0
              go_wp2_with (go_at_call 76; refine (Has_any (fldS op) _ _ HZ.out).mono ?_; rintro e w' ⟨rfl, rfl⟩)
              go_ret
              exact ⟨ret_int (by rw [He.out, HF.out]; rfl), HB.out⟩
            · have hb : (n != 0) = true := by simp [h0]
              have H0 := Lib.hid h0
              clear h0
              go_wp2_with (go_at_call 76; refine (Has_any (fldS op) _ _ HZ.out).mono ?_; rintro e w' ⟨rfl, rfl⟩)
              go_ret
              exact ⟨ret_int (by rw [He.out, HF.out]; rfl), HB.out⟩
      · by_cases hx : n < 0
        · have Hf : Hid (faultS ⟨op, dst, a, b, n⟩ many = 3) := Lib.hid (fault_num _ _ HO.out (by show numberS (shK op) n many = 3; rw [hk]; unfold numberS; simp; try omega))
          clear hk
          all_goals
            go_wp2_with (go_at_call 76; refine (Has_any (fldS op) _ _ HZ.out).mono ?_; rintro e w' ⟨rfl, rfl⟩)
            go_ret
            exact ⟨ret_int Hf.out.symm, HB.out⟩
        · have hx1 : 0 ≤ n := by omega
          clear hx
          have Hn : Hid (numberS (shK op) n many = 0) := Lib.hid (by rw [hk]; unfold numberS; simp; try omega)
          have He : Hid (faultS ⟨op, dst, a, b, n⟩ many = if (formS ⟨op, dst, a, b, n⟩ 3 || decide ((0 : Int) = 5)) = true then 5 else 0) := Lib.hid (by
            have := fault_end ⟨op, dst, a, b, n⟩ many HO.out HG.out (by show numberS (shK op) n many ≠ 3; rw [Hn.out]; decide)
            rw [show numberS (shK (Mac.mk op dst a b n).op) (Mac.mk op dst a b n).n many = 0 from Hn.out] at this
            exact this)
          clear hk
          by_cases hF : formS ⟨op, dst, a, b, n⟩ 3 = true
          · have HF := Lib.hid hF
            rw [hF]
            clear hF
            go_wp2_with (go_at_call 76; refine (Has_any (fldS op) _ _ HZ.out).mono ?_; rintro e w' ⟨rfl, rfl⟩)
            go_ret
            exact ⟨ret_int (by rw [He.out, HF.out]; rfl), HB.out⟩
          · have HF := Lib.hid (by simpa using hF : formS ⟨op, dst, a, b, n⟩ 3 = false)
            rw [HF.out]
            clear hF
            by_cases h0 : n = 0
            · have hb : (n != 0) = false := by simp [h0]
              have H0 := Lib.hid h0
              clear h0
              go_wp2_with (go_at_call 76; refine (Has_any (fldS op) _ _ HZ.out).mono ?_; rintro e w' ⟨rfl, rfl⟩)
              go_ret
              exact ⟨ret_int (by rw [He.out, HF.out]; rfl), HB.out⟩
            · have hb : (n != 0) = true := by simp [h0]
              have H0 := Lib.hid h0
              clear h0
              go_wp2_with (go_at_call 76; refine (Has_any (fldS op) _ _ HZ.out).mono ?_; rintro e w' ⟨rfl, rfl⟩)
              go_ret
              exact ⟨ret_int (by rw [He.out, HF.out]; rfl), HB.out⟩
      · by_cases h0 : n = 0
        · have hb : (n != 0) = false := by simp [h0]
          have H0 := Lib.hid h0
          clear h0
          have Hn : Hid (numberS (shK op) n many = 0) := Lib.hid (by rw [hk]; unfold numberS; simp [H0.out])
          have He : Hid (faultS ⟨op, dst, a, b, n⟩ many = if (formS ⟨op, dst, a, b, n⟩ 3 || decide ((0 : Int) = 5)) = true then 5 else 0) := Lib.hid (by
            have := fault_end ⟨op, dst, a, b, n⟩ many HO.out HG.out (by show numberS (shK op) n many ≠ 3; rw [Hn.out]; decide)
            rw [show numberS (shK (Mac.mk op dst a b n).op) (Mac.mk op dst a b n).n many = 0 from Hn.out] at this
            exact this)
          clear hk
          by_cases hF : formS ⟨op, dst, a, b, n⟩ 3 = true
          · have HF := Lib.hid hF
            rw [hF]
            clear hF
            go_wp2_with (go_at_call 76; refine (Has_any (fldS op) _ _ HZ.out).mono ?_; rintro e w' ⟨rfl, rfl⟩)
            go_ret
            exact ⟨ret_int (by rw [He.out, HF.out]; rfl), HB.out⟩
          · have HF := Lib.hid (by simpa using hF : formS ⟨op, dst, a, b, n⟩ 3 = false)
            rw [HF.out]
            clear hF
            go_wp2_with (go_at_call 76; refine (Has_any (fldS op) _ _ HZ.out).mono ?_; rintro e w' ⟨rfl, rfl⟩)
            go_ret
            exact ⟨ret_int (by rw [He.out, HF.out]; rfl), HB.out⟩
        · have hb : (n != 0) = true := by simp [h0]
          have H0 := Lib.hid h0
          clear h0
          have Hn : Hid (numberS (shK op) n many = 5) := Lib.hid (by rw [hk]; unfold numberS; simp [H0.out])
          have He : Hid (faultS ⟨op, dst, a, b, n⟩ many = if (formS ⟨op, dst, a, b, n⟩ 3 || decide ((5 : Int) = 5)) = true then 5 else 0) := Lib.hid (by
            have := fault_end ⟨op, dst, a, b, n⟩ many HO.out HG.out (by show numberS (shK op) n many ≠ 3; rw [Hn.out]; decide)
            rw [show numberS (shK (Mac.mk op dst a b n).op) (Mac.mk op dst a b n).n many = 5 from Hn.out] at this
            exact this)
          clear hk
          by_cases hF : formS ⟨op, dst, a, b, n⟩ 3 = true
          · have HF := Lib.hid hF
            rw [hF]
            clear hF
            go_wp2_with (go_at_call 76; refine (Has_any (fldS op) _ _ HZ.out).mono ?_; rintro e w' ⟨rfl, rfl⟩)
            go_ret
            exact ⟨ret_int (by rw [He.out, HF.out]; rfl), HB.out⟩
          · have HF := Lib.hid (by simpa using hF : formS ⟨op, dst, a, b, n⟩ 3 = false)
            rw [HF.out]
            clear hF
            go_wp2_with (go_at_call 76; refine (Has_any (fldS op) _ _ HZ.out).mono ?_; rintro e w' ⟨rfl, rfl⟩)
            go_ret
            exact ⟨ret_int (by rw [He.out, HF.out]; rfl), HB.out⟩
  · have hq := fld_q op (by simpa using ho)
    have HF1 : Hid (faultS ⟨op, dst, a, b, n⟩ many = 4) := by
      refine Lib.hid ?_
      unfold faultS
      rw [if_neg ho]
    clear ho
    go_enter Tryz.func74, Tryz.ntmps74
    go_wp2_with fail
    refine (Fields_any _ _).mono ?_
    rintro e w1 ⟨rfl, hb1⟩
    go_wp2_with fail
    go_ret
    exact ⟨ret_int HF1.out.symm, ((Below.refl _ _).alloc (Nat.le_refl _) _).trans (hb1.mono (by simp))⟩
end Go.Proofs.YtdldochhondifaaGreatDoor
