/-
  Texts of the claim AsmWholeFixed (MacE): what each proves stands at its theorems.
  Conditions: as the theorems say.
-/
import Derived.Test.YtdldochhondifaaGreatDoorWMacC
import Derived.Test.YtdldochhondifaaGreatDoorWIng
namespace Go.Proofs.YtdldochhondifaaGreatDoor
open Go.RowKit
attribute [local go_sem] sureUpon

/-- The four codes of an instruction's fields. -/
def codesS (m : Mac) (many : Int) : List Int := [fieldS (shD m.op) m.dst, fieldS (shA m.op) m.a, fieldS (shB m.op) m.b, numberS (shK m.op) m.n many]
/-- What is wrong with an instruction in a list of so many; 0: nothing. -/
def faultS (m : Mac) (many : Int) : Int :=
  if isOp m.op = true then (if (3 : Int) ∈ codesS m many then 3 else maxS (fieldS (shD m.op) m.dst) [fieldS (shA m.op) m.a, fieldS (shB m.op) m.b, numberS (shK m.op) m.n many]) else 4
theorem ints_alloc (w : World) (B : Nat) (hB : w.heap.size < B) (c0 c1 c2 c3 : Int) (t : TypeId) :
    IntsAt (w.alloc (.cells #[.int .i64 c0, .int .i64 c1, .int .i64 c2, .int .i64 c3] t)) B (.slice (some ⟨w.heap.size, 0, none⟩) 4 4) [c0, c1, c2, c3] := by
  refine ⟨_, 4, rfl, by simp, by omega, fun _ => ⟨_, _, rfl, hB, fun k x hk => ?_⟩⟩
  rw [Nat.zero_add, World.cell?_alloc_new]
  match k, hk with
  | 0, h => cases h; rfl
  | 1, h => cases h; rfl
  | 2, h => cases h; rfl
  | 3, h => cases h; rfl
  | (n + 4), h => simp at h

set_option maxRecDepth 100000 in
set_option maxHeartbeats 1000000 in
theorem fault_any (op dst a b n many : Int) (w : World) (ht : Tab w) :
    Calls Tryz.prog 67 #[.agg #[.int .i64 op, .int .i64 dst, .int .i64 a, .int .i64 b, .int .i64 n], .int .i64 many] w fun e w' => e = .returned (.int .i64 (faultS ⟨op, dst, a, b, n⟩ many)) ∧ Below w.heap.size w w' := by
  have HT := Lib.hid ht
  clear ht
  by_cases ho : isOp op = true
  · have HO := Lib.hid ho
    clear ho
    go_enter Tryz.func67, Tryz.ntmps67
    go_wp2_with fail
    refine (Of_any _ _ (HT.out.own ((Below.refl _ _).alloc (Nat.le_refl _) _))).mono ?_
    rintro e w1 ⟨rfl, hb1⟩
    rw [HO.out]
    have hz : w.heap.size < w1.heap.size := by have := hb1.size; simp at this; omega
    have c0 : w1.cell? ⟨w.heap.size, 0, none⟩ = some (.int .i64 op) := by rw [bcell hb1 (by simp)]; simp
    have c1 : w1.cell? ⟨w.heap.size, 1, none⟩ = some (.int .i64 dst) := by rw [bcell hb1 (by simp)]; simp
    have c2 : w1.cell? ⟨w.heap.size, 2, none⟩ = some (.int .i64 a) := by rw [bcell hb1 (by simp)]; simp
    have c3 : w1.cell? ⟨w.heap.size, 3, none⟩ = some (.int .i64 b) := by rw [bcell hb1 (by simp)]; simp
    have c4 : w1.cell? ⟨w.heap.size, 4, none⟩ = some (.int .i64 n) := by rw [bcell hb1 (by simp)]; simp
    go_wp2_with fail
    obtain ⟨W1, hW1⟩ : ∃ W1 : World, W1 = (w1.alloc (.cells #[.bool (shD op), .bool (shA op), .bool (shB op), .int .i64 (shK op)] 129)).drew := ⟨_, rfl⟩
    have hs1 : W1.heap.size = w1.heap.size + 1 := by rw [hW1]; simp
    have facts : ∀ (L : Array Bool) (w' : World), Stages W1 (.cells #[.int .i64 0, .int .i64 0, .int .i64 0, .int .i64 0] 168)
        (.cells #[.int .i64 (fieldS (shD op) dst), .int .i64 (fieldS (shA op) a), .int .i64 (fieldS (shB op) b), .int .i64 (numberS (shK op) n many)] 168) 22 23 L w' →
        w'.cell? ⟨w.heap.size, 1, none⟩ = some (.int .i64 dst) ∧ w'.cell? ⟨w.heap.size, 2, none⟩ = some (.int .i64 a) ∧ w'.cell? ⟨w.heap.size, 3, none⟩ = some (.int .i64 b) ∧ w'.cell? ⟨w.heap.size, 4, none⟩ = some (.int .i64 n) ∧
        w'.cell? ⟨w1.heap.size, 0, none⟩ = some (.bool (shD op)) ∧ w'.cell? ⟨w1.heap.size, 1, none⟩ = some (.bool (shA op)) ∧ w'.cell? ⟨w1.heap.size, 2, none⟩ = some (.bool (shB op)) ∧ w'.cell? ⟨w1.heap.size, 3, none⟩ = some (.int .i64 (shK op)) := by
      intro L w' hC
      have e1 : ∀ o, w'.cell? ⟨w.heap.size, o, none⟩ = w1.cell? ⟨w.heap.size, o, none⟩ := fun o => by
        rw [hC.cell (by omega), hW1]; exact World.cell?_alloc_lt w1 _ ⟨w.heap.size, o, none⟩ hz
      have e2 : ∀ o, w'.cell? ⟨w1.heap.size, o, none⟩ = (#[.bool (shD op), .bool (shA op), .bool (shB op), .int .i64 (shK op)] : Array Value)[o]? := fun o => by
        rw [hC.cell (by omega), hW1]; exact World.cell?_alloc_new w1 _ _ _
      rw [e1, e1, e1, e1, e2, e2, e2, e2]
      exact ⟨c1, c2, c3, c4, rfl, rfl, rfl, rfl⟩
    have HF := Lib.hid facts
    clear facts
    refine wp_region_lex (Stages W1 (.cells #[.int .i64 0, .int .i64 0, .int .i64 0, .int .i64 0] 168)
        (.cells #[.int .i64 (fieldS (shD op) dst), .int .i64 (fieldS (shA op) a), .int .i64 (fieldS (shB op) b), .int .i64 (numberS (shK op) n many)] 168) 22 23) (by kernel_rfl) (by kernel_rfl) (by rw [hW1]; exact Stages.start) ?_
    have HW := Lib.hid hW1
    clear hW1 c0 c1 c2 c3 c4
    iterate 4
      apply wpLex_step
      · rfl
      · intro L w' hC hL hd
        clear hd
        have F := HF.out L w' hC
        have HC := Lib.hid hC
        clear hC
        go_simp
        exact ⟨HC.out.keep _ (by decide) (by decide), rfl⟩
      simp only [Act.put, List.setIfInBounds_toArray, List.set_cons_succ, List.set_cons_zero, Nat.reduceAdd]
    apply wpLex_step
    · rfl
    · intro L w' hC hL hd
      clear hd
      have HC := Lib.hid hC
      clear hC
      go_simp
      exact (field_any _ _ _).mono fun _ _ h => ⟨h.1, h.2 ▸ HC.out.keep _ (by decide) (by decide)⟩
    simp only [Act.put, List.setIfInBounds_toArray, List.set_cons_succ, List.set_cons_zero, Nat.reduceAdd]
    iterate 4
      apply wpLex_step
      · rfl
      · intro L w' hC hL hd
        clear hd
        have F := HF.out L w' hC
        have HC := Lib.hid hC
        clear hC
        go_simp
        exact ⟨HC.out.keep _ (by decide) (by decide), rfl⟩
      simp only [Act.put, List.setIfInBounds_toArray, List.set_cons_succ, List.set_cons_zero, Nat.reduceAdd]
    apply wpLex_step
    · rfl
    · intro L w' hC hL hd
      clear hd
      have HC := Lib.hid hC
      clear hC
      go_simp
      exact (field_any _ _ _).mono fun _ _ h => ⟨h.1, h.2 ▸ HC.out.keep _ (by decide) (by decide)⟩
    simp only [Act.put, List.setIfInBounds_toArray, List.set_cons_succ, List.set_cons_zero, Nat.reduceAdd]
    iterate 4
      apply wpLex_step
      · rfl
      · intro L w' hC hL hd
        clear hd
        have F := HF.out L w' hC
        have HC := Lib.hid hC
        clear hC
        go_simp
        exact ⟨HC.out.keep _ (by decide) (by decide), rfl⟩
      simp only [Act.put, List.setIfInBounds_toArray, List.set_cons_succ, List.set_cons_zero, Nat.reduceAdd]
    apply wpLex_step
    · rfl
    · intro L w' hC hL hd
      clear hd
      have HC := Lib.hid hC
      clear hC
      go_simp
      exact (field_any _ _ _).mono fun _ _ h => ⟨h.1, h.2 ▸ HC.out.keep _ (by decide) (by decide)⟩
    simp only [Act.put, List.setIfInBounds_toArray, List.set_cons_succ, List.set_cons_zero, Nat.reduceAdd]
    iterate 5
      apply wpLex_step
      · rfl
      · intro L w' hC hL hd
        clear hd
        have F := HF.out L w' hC
        have HC := Lib.hid hC
        clear hC
        go_simp
        exact ⟨HC.out.keep _ (by decide) (by decide), rfl⟩
      simp only [Act.put, List.setIfInBounds_toArray, List.set_cons_succ, List.set_cons_zero, Nat.reduceAdd]
    apply wpLex_step
    · rfl
    · intro L w' hC hL hd
      clear hd
      have HC := Lib.hid hC
      clear hC
      go_simp
      exact (number_any _ _ _ _).mono fun _ _ h => ⟨h.1, h.2 ▸ HC.out.keep _ (by decide) (by decide)⟩
    simp only [Act.put, List.setIfInBounds_toArray, List.set_cons_succ, List.set_cons_zero, Nat.reduceAdd]
    iterate 1
      apply wpLex_step
      · rfl
      · intro L w' hC hL hd
        clear hd
        have F := HF.out L w' hC
        have HC := Lib.hid hC
        clear hC
        go_simp
        exact ⟨HC.out.keep _ (by decide) (by decide), rfl⟩
      simp only [Act.put, List.setIfInBounds_toArray, List.set_cons_succ, List.set_cons_zero, Nat.reduceAdd]
    apply wpLex_step
    · rfl
    · intro L w' hC hL hd
      have hs := (hC.atAlloc hL).2
      have hw := (hC.atAlloc hL).1
      subst hw
      have HS := Lib.hid hs
      have HL := Lib.hid hL
      clear hC hd hs hL
      go_simp
      exact ⟨Stages.afterAlloc (by decide) HL.out HS.out, rfl⟩
    simp only [Act.put, List.setIfInBounds_toArray, List.set_cons_succ, List.set_cons_zero, Nat.reduceAdd]
    apply wpLex_step
    · rfl
    · intro L w' hC hL hd
      have ha : L.getD 22 false = true := hd ⟨22, .data⟩ (by simp) rfl
      have hw := hC.atStore hL ha
      subst hw
      have HA := Lib.hid ha
      have HL := Lib.hid hL
      clear hC hd ha hL
      go_simp
      exact ⟨Stages.afterStore (by decide) HL.out HA.out, rfl⟩
    refine wpLex_nil ?_
    intro L w' hC hL
    have hw := hC.end_ (hL 23 (by decide))
    subst hw
    clear hC hL
    have hz1 : w.heap.size < W1.heap.size := by omega
    have hi := ints_alloc W1 (W1.heap.size + 1) (by omega) (fieldS (shD op) dst) (fieldS (shA op) a) (fieldS (shB op) b) (numberS (shK op) n many) 168
    rw [hs1] at hi
    have HI := Lib.hid hi
    clear hi
    have HB : Hid (Below w.heap.size w (W1.alloc (.cells #[.int .i64 (fieldS (shD op) dst), .int .i64 (fieldS (shA op) a), .int .i64 (fieldS (shB op) b), .int .i64 (numberS (shK op) n many)] 168))) := by
      refine Lib.hid ?_
      rw [HW.out]
      exact (((((Below.refl _ _).alloc (Nat.le_refl _) _).trans (hb1.mono (by simp))).alloc (by omega) _).drew).alloc (by simp; omega) _
    clear hb1 hs1
    have HF1 : Hid (faultS ⟨op, dst, a, b, n⟩ many = if (3 : Int) ∈ codesS ⟨op, dst, a, b, n⟩ many then 3 else maxS (fieldS (shD op) dst) [fieldS (shA op) a, fieldS (shB op) b, numberS (shK op) n many]) := by
      refine Lib.hid ?_
      unfold faultS
      rw [if_pos HO.out]
    by_cases h3 : (3 : Int) ∈ codesS ⟨op, dst, a, b, n⟩ many
    · have H3 := Lib.hid h3
      clear h3
      go_wp2_with (go_at_call 117; refine (Contains_any _ _ _ _ _ HI.out).mono ?_; rintro e w' ⟨rfl, rfl⟩; rw [show decide ((3 : Int) ∈ [fieldS (shD op) dst, fieldS (shA op) a, fieldS (shB op) b, numberS (shK op) n many]) = true from by simpa [codesS] using H3.out])
      go_ret
      exact ⟨ret_int (by rw [HF1.out, if_pos H3.out]), HB.out⟩
    · have H3 := Lib.hid h3
      clear h3
      go_wp2_with (first | (go_at_call 117; refine (Contains_any _ _ _ _ _ HI.out).mono ?_; rintro e w' ⟨rfl, rfl⟩; rw [show decide ((3 : Int) ∈ [fieldS (shD op) dst, fieldS (shA op) a, fieldS (shB op) b, numberS (shK op) n many]) = false from by simpa [codesS] using H3.out]) | (go_at_call 118; refine (Max_any _ _ _ _ _ HI.out).mono ?_; rintro e w' ⟨rfl, rfl⟩))
      go_ret
      exact ⟨ret_int (by rw [HF1.out, if_neg H3.out]), HB.out⟩
  · have HO := Lib.hid (by simpa using ho : isOp op = false)
    have HF1 : Hid (faultS ⟨op, dst, a, b, n⟩ many = 4) := by
      refine Lib.hid ?_
      unfold faultS
      rw [if_neg ho]
    clear ho
    go_enter Tryz.func67, Tryz.ntmps67
    go_wp2_with fail
    refine (Of_any _ _ (HT.out.own ((Below.refl _ _).alloc (Nat.le_refl _) _))).mono ?_
    rintro e w1 ⟨rfl, hb1⟩
    rw [HO.out]
    go_wp2_with fail
    go_ret
    exact ⟨ret_int HF1.out.symm, (((Below.refl _ _).alloc (Nat.le_refl _) _).trans (hb1.mono (by simp))).alloc (by have := hb1.size; simp at this; omega) _⟩
end Go.Proofs.YtdldochhondifaaGreatDoor
namespace Go.Proofs.YtdldochhondifaaGreatDoor
open Go.RowKit

theorem isOp_iff (op : Int) : isOp op = true ↔ 1 ≤ op ∧ op ≤ 47 := by unfold isOp; simp
theorem fld_size (op : Int) : (fldS op).size ≤ 3 := by
  show (fldL op).length ≤ 3
  unfold fldL
  (repeat' split) <;> try decide
  have h : ∀ (l : List (List UInt8)) (k : Nat), (∀ x ∈ l, x.length ≤ 3) → (l.getD k []).length ≤ 3 := by
    intro l k hl
    rw [List.getD_eq_getElem?_getD]
    cases hh : l[k]? with
    | none => simp
    | some x => exact hl x (List.mem_of_getElem? hh)
  exact h _ _ (by decide)
theorem field_val (u : Bool) (r : Int) : fieldS u r = 0 ∨ fieldS u r = 3 ∨ fieldS u r = 5 := by unfold fieldS; split <;> split <;> simp
theorem number_val (k n m : Int) : numberS k n m = 0 ∨ numberS k n m = 3 ∨ numberS k n m = 5 := by unfold numberS; (repeat' split) <;> simp
theorem fault_of (m : Mac) (many : Int) (h : isOp m.op = true) : faultS m many =
    if fieldS (shD m.op) m.dst = 3 ∨ fieldS (shA m.op) m.a = 3 ∨ fieldS (shB m.op) m.b = 3 ∨ numberS (shK m.op) m.n many = 3 then 3
    else if fieldS (shD m.op) m.dst = 5 ∨ fieldS (shA m.op) m.a = 5 ∨ fieldS (shB m.op) m.b = 5 ∨ numberS (shK m.op) m.n many = 5 then 5 else 0 := by
  unfold faultS codesS
  rw [if_pos h]
  rcases field_val (shD m.op) m.dst with h1 | h1 | h1 <;> rcases field_val (shA m.op) m.a with h2 | h2 | h2 <;> rcases field_val (shB m.op) m.b with h3 | h3 | h3 <;>
    rcases number_val (shK m.op) m.n many with h4 | h4 | h4 <;> rw [h1, h2, h3, h4] <;> decide

theorem field_3 (u : Bool) (r : Int) : fieldS u r = 3 ↔ u = true ∧ ¬ (0 ≤ r ∧ r ≤ 15) := by
  unfold fieldS
  cases u
  · simp; split <;> simp
  · simp; omega
theorem field_5 (u : Bool) (r : Int) : fieldS u r = 5 ↔ u = false ∧ r ≠ 0 := by
  unfold fieldS
  cases u
  · simp
  · simp; split <;> simp
end Go.Proofs.YtdldochhondifaaGreatDoor
