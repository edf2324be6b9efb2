/-
  PLAIN: what an instruction takes; which registers are live where.
  Conditions: none.
-/
import Derived.Test.YtgnkkgbjcodihaaDoorUnL
namespace Go.Proofs.YtgnkkgbjcodihaaDoor
open Go.RowKit

/-- What an instruction takes, in its order. -/
def valsU (x : InsU) : List Opd := (if hasA x.op = true then [x.a] else []) ++ (if hasB x.op = true then [x.b] else []) ++ x.args
theorem occVs_app (l m : List Opd) : occVs (l ++ m) = occVs l ++ occVs m := by
  unfold occVs
  rw [List.map_append, List.flatten_append]
theorem occVs_one (v : Opd) : occVs [v] = occV v := by simp [occVs]
theorem occ_vals {ps : List Int} {regs : Int} {x : InsU} (h : InsOk ps regs x) : occVs (valsU x) = occV x.a ++ occV x.b ++ occVs x.args := by
  have h1 : occVs (if hasA x.op = true then [x.a] else []) = occV x.a := by
    by_cases ha : hasA x.op = true
    · rw [if_pos ha, occVs_one]
    · rw [if_neg ha, h.noA (by simpa using ha)]; rfl
  have h2 : occVs (if hasB x.op = true then [x.b] else []) = occV x.b := by
    by_cases ha : hasB x.op = true
    · rw [if_pos ha, occVs_one]
    · rw [if_neg ha, h.noB (by simpa using ha)]; rfl
  unfold valsU
  rw [occVs_app, occVs_app, h1, h2]
theorem vals_in {ps : List Int} {regs : Int} {x : InsU} (h : InsOk ps regs x) : ∀ v ∈ valsU x, v.reg = true → 0 ≤ v.n ∧ v.n < regs := by
  intro v hv
  unfold valsU at hv
  rcases List.mem_append.1 hv with hv | hv
  · rcases List.mem_append.1 hv with hv | hv
    · split at hv
      · simp only [List.mem_cons, List.not_mem_nil, or_false] at hv; subst hv; exact h.a
      · cases hv
    · split at hv
      · simp only [List.mem_cons, List.not_mem_nil, or_false] at hv; subst hv; exact h.b
      · cases hv
  · exact h.args v hv
theorem vals_len (x : InsU) : (valsU x).length ≤ 2 + x.args.length := by
  unfold valsU
  simp only [List.length_append]
  split <;> split <;> simp only [List.length_cons, List.length_nil] <;> omega
/-- Does an instruction read a register? -/
def takesU (x : InsU) (r : Int) : Bool := decide (r ∈ occV x.a ++ occV x.b ++ occVs x.args)
theorem takes_vals {ps : List Int} {regs : Int} {x : InsU} (h : InsOk ps regs x) (r : Int) : takesU x r = decide (r ∈ occVs (valsU x)) := by rw [occ_vals h]; rfl
/-- Back through some instructions: what is live ahead of them, by what is live behind them. -/
def upTo : List InsU → (Int → Bool) → Int → Bool
  | [], S, r => S r
  | x :: xs, S, r => takesU x r || (upTo xs S r && decide (x.dst ≠ r))
theorem upTo_mono {xs : List InsU} {S T : Int → Bool} (h : ∀ r, S r = true → T r = true) : ∀ r, upTo xs S r = true → upTo xs T r = true := by
  induction xs with
  | nil => exact h
  | cons x xs ih =>
    intro r hr
    simp only [upTo, Bool.or_eq_true, Bool.and_eq_true] at hr ⊢
    rcases hr with h1 | ⟨h1, h2⟩
    · exact .inl h1
    · exact .inr ⟨ih r h1, h2⟩
theorem upTo_congr {xs : List InsU} {S T : Int → Bool} (h : ∀ r, S r = T r) (r : Int) : upTo xs S r = upTo xs T r := by
  rw [show S = T from funext h]
/-- What is live at a block's end, by what is live ahead of each block. -/
def endU (b : BlkU) (I : Nat → Int → Bool) (r : Int) : Bool := decide (r ∈ occV b.on) || b.to.any fun t => I t.toNat r
theorem endU_mono {b : BlkU} {I J : Nat → Int → Bool} (h : ∀ i r, I i r = true → J i r = true) (r : Int) (hr : endU b I r = true) : endU b J r = true := by
  unfold endU at *
  simp only [Bool.or_eq_true, List.any_eq_true] at *
  rcases hr with h1 | ⟨t, ht, h1⟩
  · exact .inl h1
  · exact .inr ⟨t, ht, h _ _ h1⟩
/-- One step of the equations: what is live ahead of a block. -/
def stepU (bs : List BlkU) (I : Nat → Int → Bool) (i : Nat) (r : Int) : Bool := match bs[i]? with
  | some b => upTo b.list (endU b I) r
  | none => false
theorem stepU_at {bs : List BlkU} {I : Nat → Int → Bool} {i : Nat} {b : BlkU} (h : bs[i]? = some b) (r : Int) : stepU bs I i r = upTo b.list (endU b I) r := by unfold stepU; rw [h]
theorem stepU_mono {bs : List BlkU} {I J : Nat → Int → Bool} (h : ∀ i r, I i r = true → J i r = true) (i : Nat) (r : Int) (hr : stepU bs I i r = true) : stepU bs J i r = true := by
  unfold stepU at *
  split at hr
  · exact upTo_mono (fun r => endU_mono h r) r hr
  · cases hr
/-- Live ahead of a block: in all that the equations let be. -/
def InU (bs : List BlkU) (i : Nat) (r : Int) : Prop := ∀ I : Nat → Int → Bool, (∀ j s, stepU bs I j s = true → I j s = true) → I i r = true
noncomputable def inU (bs : List BlkU) (i : Nat) (r : Int) : Bool := @decide (InU bs i r) (Classical.propDecidable _)
theorem inU_iff {bs : List BlkU} {i : Nat} {r : Int} : inU bs i r = true ↔ InU bs i r := by unfold inU; exact @decide_eq_true_iff _ (Classical.propDecidable _)
theorem inU_least {bs : List BlkU} {I : Nat → Int → Bool} (h : ∀ j s, stepU bs I j s = true → I j s = true) (i : Nat) (r : Int) (hr : inU bs i r = true) : I i r = true := inU_iff.1 hr I h
theorem inU_step {bs : List BlkU} (i : Nat) (r : Int) (h : stepU bs (inU bs) i r = true) : inU bs i r = true := by
  rw [inU_iff]
  intro I hI
  exact hI _ _ (stepU_mono (fun j s hs => inU_least hI j s hs) i r h)
theorem inU_eq {bs : List BlkU} (i : Nat) (r : Int) : inU bs i r = stepU bs (inU bs) i r := by
  rw [Bool.eq_iff_iff]
  refine ⟨fun h => inU_least (I := stepU bs (inU bs)) (fun j s hs => stepU_mono (fun a b hab => inU_step a b hab) j s hs) i r h, inU_step i r⟩
/-- What is live at a place of a block. -/
noncomputable def atU (bs : List BlkU) (i k : Nat) (r : Int) : Bool := match bs[i]? with
  | some b => upTo (b.list.drop k) (endU b (inU bs)) r
  | none => false
theorem atU_at {bs : List BlkU} {i k : Nat} {b : BlkU} (h : bs[i]? = some b) (r : Int) : atU bs i k r = upTo (b.list.drop k) (endU b (inU bs)) r := by unfold atU; rw [h]
theorem atU_zero {bs : List BlkU} {i : Nat} (r : Int) : atU bs i 0 r = inU bs i r := by
  rw [inU_eq]
  unfold atU stepU
  split <;> rfl
theorem atU_step {bs : List BlkU} {i k : Nat} {b : BlkU} {x : InsU} (h : bs[i]? = some b) (hx : b.list[k]? = some x) (r : Int) : atU bs i k r = (takesU x r || (atU bs i (k + 1) r && decide (x.dst ≠ r))) := by
  rw [atU_at h, atU_at h]
  have hk := (List.getElem?_eq_some_iff.1 hx).1
  rw [List.drop_eq_getElem_cons hk, (List.getElem?_eq_some_iff.1 hx).2]
  rfl
theorem atU_end {bs : List BlkU} {i : Nat} {b : BlkU} (h : bs[i]? = some b) (r : Int) : atU bs i b.list.length r = endU b (inU bs) r := by
  rw [atU_at h, List.drop_length]
  rfl
/-- What is all settled is what is live. -/
theorem inU_done {bs : List BlkU} {I : Nat → Int → Bool} (h1 : ∀ j s, stepU bs I j s = true → I j s = true) (h2 : ∀ j s, I j s = true → inU bs j s = true) (i : Nat) (r : Int) : I i r = inU bs i r := by
  rw [Bool.eq_iff_iff]
  exact ⟨h2 i r, inU_least h1 i r⟩
end Go.Proofs.YtgnkkgbjcodihaaDoor
