/-
  Several texts in one (CoL CoM CoN): what each proves stands at its theorems.
  Conditions: as the theorems say.
-/
import Derived.Test.YtiknhfbkphoceaaGreatDoorCoJ
import Derived.BigQuiet
import Derived.Test.YtiknhfbkphoceaaGreatDoorCoK
import Derived.Test.YtiknhfbkphoceaaGreatDoorUoB
namespace Go.Proofs.YtiknhfbkphoceaaGreatDoor
open Go.RowKit

theorem rowAt_of {f : FunU} {r : Int} (h0 : 0 ≤ r) (h1 : r < (f.regs.toNat : Int)) : rowAt (ofRows f) r = listS f.regs.toNat (ofS f.blocks r) := by
  unfold rowAt ofRows
  rw [List.getD_eq_getElem?_getD, List.getElem?_map, List.getElem?_range (by omega)]
  simp only [Option.map_some, Option.getD_some]
  rw [Int.toNat_of_nonneg h0]
theorem turns_of (f : FunU) : Turns f.regs.toNat (ofRows f) := by
  refine ⟨fun r h0 h1 o ho => ?_, fun r h0 h1 o ho => ?_, fun r h0 h1 ho => ?_⟩
  · rw [rowAt_of h0 h1, listS_mem] at ho
    exact ⟨ho.1, ho.2.1⟩
  · rw [rowAt_of h0 h1, listS_mem] at ho
    rw [rowAt_of ho.1 ho.2.1, listS_mem]
    exact ⟨h0, h1, by rw [ofS_turn]; exact ho.2.2⟩
  · rw [rowAt_of h0 h1, listS_mem, ofS_self] at ho
    exact absurd ho.2.2 (by simp)
theorem givenS_mem {m : Nat} {g : Int} : g ∈ givenS m ↔ (0 ≤ g ∧ g < (lowN m : Int)) ∨ (6 ≤ g ∧ g < 6 + ((m - lowN m : Nat) : Int)) := by
  unfold givenS
  rw [List.mem_append, List.mem_map, List.mem_map]
  constructor
  · rintro (⟨k, hk, rfl⟩ | ⟨k, hk, rfl⟩)
    · have := List.mem_range.1 hk
      exact .inl ⟨by omega, by omega⟩
    · have := List.mem_range.1 hk
      exact .inr ⟨by omega, by omega⟩
  · rintro (⟨h0, h1⟩ | ⟨h0, h1⟩)
    · exact .inl ⟨g.toNat, List.mem_range.2 (by omega), by omega⟩
    · exact .inr ⟨(g - 6).toNat, List.mem_range.2 (by omega), by omega⟩
theorem givenS_range {m : Nat} (hm : m ≤ 14) {g : Int} (h : g ∈ givenS m) : 0 ≤ g ∧ g < 16 := by
  have hl : lowN m = min 6 ((m + 1) / 2) := rfl
  rcases givenS_mem.1 h with h | h <;> omega
theorem wishes_given {f : FunU} {giv ps : List Int} {r : Int} {g : Int} (h : g ∈ giv) : g ∈ wishesL f giv ps r := by
  unfold wishesL
  exact List.mem_append_right _ h
theorem Painted.same {n : Nat} {rows : List (List Int)} {acr giv d1 d2 ps : List Int} (h : Painted n rows acr giv d1 ps) (he : ∀ x, x ∈ d1 ↔ x ∈ d2) : Painted n rows acr giv d2 ps :=
  ⟨h.len, fun r h0 h1 hn => h.unset r h0 h1 fun hm => hn ((he r).1 hm), fun r hm => h.got r ((he r).2 hm), fun r hm => h.apart r ((he r).2 hm), fun r hm => h.need r ((he r).2 hm)⟩
theorem Coloured.painted {f : FunU} {rows : List (List Int)} {acr ws bg ps : List Int} {n m : Nat} (h : Coloured f rows acr (givenS m) ws bg n ps) (hT : Turns n rows) (hm : m ≤ 14) : Painted n rows acr (givenS m) (presentL ws bg n) ps := by
  obtain ⟨order, ⟨hp, _⟩, rfl⟩ := h
  refine (painted_all hT (fun ps r g hg => wishes_given hg) (fun g hg => givenS_range hm hg) (hp.nodup_iff.2 (presentL_nodup ws bg n)) (fun r hr => (presentL_mem.1 (hp.mem_iff.1 hr)).1)).same fun x => hp.mem_iff
end Go.Proofs.YtiknhfbkphoceaaGreatDoor
namespace Go.Proofs.YtiknhfbkphoceaaGreatDoor
open Go.RowKit

theorem given_has (m : Nat) (p : Int) : hasN (givenS m) p = ((decide (0 ≤ p) && decide (p < (lowN m : Int))) || (decide (6 ≤ p) && decide (p < 6 + (m : Int) - (lowN m : Int)))) := by
  have hl : lowN m ≤ m := by unfold lowN; omega
  rw [Bool.eq_iff_iff, hasN_iff, givenS_mem]
  simp only [Bool.or_eq_true, Bool.and_eq_true, decide_eq_true_eq]
  omega
theorem given_yes {b : Bool} {m c : Nat} {p : Int} (h : b = ((decide (0 ≤ p) && decide (p < (c : Int))) || (decide (6 ≤ p) && decide (p < 6 + (m : Int) - (c : Int))))) (hy : (0 ≤ p ∧ p < (c : Int)) ∨ (6 ≤ p ∧ p < 6 + (m : Int) - (c : Int))) : true = b := by
  rw [h, eq_comm]
  simp only [Bool.or_eq_true, Bool.and_eq_true, decide_eq_true_eq]
  exact hy
theorem given_no {b : Bool} {m c : Nat} {p : Int} (h : b = ((decide (0 ≤ p) && decide (p < (c : Int))) || (decide (6 ≤ p) && decide (p < 6 + (m : Int) - (c : Int))))) (hy : ¬ ((0 ≤ p ∧ p < (c : Int)) ∨ (6 ≤ p ∧ p < 6 + (m : Int) - (c : Int)))) : false = b := by
  rw [h, eq_comm, ← Bool.not_eq_true]
  simp only [Bool.or_eq_true, Bool.and_eq_true, decide_eq_true_eq]
  exact hy
set_option maxRecDepth 100000 in
set_option maxHeartbeats 2000000 in
theorem RGiven_any (m : Nat) (p : Int) (w : World) (h1 : 2 ≤ m) (h2 : m ≤ 14) (hp : I64 p) :
    Calls Tryz.prog 24 #[.int .i64 (m : Int), .int .i64 p] w fun e w' => e = .returned (.bool (hasN (givenS m) p)) ∧ w = w' := by
  have hq : (m : Int).tdiv 2 = ((m / 2 : Nat) : Int) := by rw [Int.tdiv_eq_ediv_of_nonneg (by omega)]; omega
  have hw : wrap64 ((m : Int).tdiv 2) = ((m / 2 : Nat) : Int) := by rw [IntWalk.wrap64_in _ (by rw [hq]; omega), hq]
  have hr : (m : Int).tmod 2 = ((m % 2 : Nat) : Int) := by rw [Int.tmod_eq_emod_of_nonneg (by omega)]; omega
  obtain ⟨bb, hbb⟩ : ∃ bb, hasN (givenS m) p = bb := ⟨_, rfl⟩
  have HE : Hid (bb = ((decide (0 ≤ p) && decide (p < (lowN m : Int))) || (decide (6 ≤ p) && decide (p < 6 + (m : Int) - (lowN m : Int))))) := Lib.hid (hbb.symm.trans (given_has m p))
  rw [hbb]
  obtain ⟨q1, hq1⟩ : ∃ q1, m / 2 = q1 := ⟨_, rfl⟩
  obtain ⟨r1, hr1⟩ : ∃ r1, m % 2 = r1 := ⟨_, rfl⟩
  obtain ⟨c, hc⟩ : ∃ c, lowN m = c := ⟨_, rfl⟩
  have hcm : c = min 6 (q1 + r1) := by rw [← hc]; unfold lowN; omega
  have hqm : q1 + r1 ≤ 7 := by omega
  have hcl : c ≤ m := by omega
  rw [hq1] at hq hw
  rw [hr1] at hr
  rw [hc] at HE
  have Hcm := Lib.hid hcm
  obtain ⟨ha, hb⟩ := hp
  clear hq1 hr1 hc hbb hcm
  go_enter Tryz.func24, Tryz.ntmps24
  by_cases h6 : (q1 : Int) + (r1 : Int) > 6
  · obtain rfl : c = 6 := by have := Hcm.out; omega
    by_cases a0 : p ≥ 0
    · by_cases a1 : p < 6
      · go_wp2_with fail
        go_ret
        exact ⟨ret_bool (given_yes HE.out (by omega)), rfl⟩
      · by_cases a2 : p ≥ 6
        · by_cases a3 : p < 6 + (m : Int) - 6
          · go_wp2_with fail
            go_ret
            exact ⟨ret_bool (given_yes HE.out (by omega)), rfl⟩
          · go_wp2_with fail
            go_ret
            exact ⟨ret_bool (given_no HE.out (by omega)), rfl⟩
        · omega
    · have a2 : ¬ p ≥ 6 := by omega
      go_wp2_with fail
      go_ret
      exact ⟨ret_bool (given_no HE.out (by omega)), rfl⟩
  · have hs : (q1 : Int) + (r1 : Int) = (c : Int) := by have := Hcm.out; omega
    rw [hs] at h6
    by_cases a0 : p ≥ 0
    · by_cases a1 : p < (c : Int)
      · go_wp2_with fail
        go_ret
        exact ⟨ret_bool (given_yes HE.out (by omega)), rfl⟩
      · by_cases a2 : p ≥ 6
        · by_cases a3 : p < 6 + (m : Int) - (c : Int)
          · go_wp2_with fail
            go_ret
            exact ⟨ret_bool (given_yes HE.out (by omega)), rfl⟩
          · go_wp2_with fail
            go_ret
            exact ⟨ret_bool (given_no HE.out (by omega)), rfl⟩
        · go_wp2_with fail
          go_ret
          exact ⟨ret_bool (given_no HE.out (by omega)), rfl⟩
    · have a2 : ¬ p ≥ 6 := by omega
      go_wp2_with fail
      go_ret
      exact ⟨ret_bool (given_no HE.out (by omega)), rfl⟩
end Go.Proofs.YtiknhfbkphoceaaGreatDoor
namespace Go.Proofs.YtiknhfbkphoceaaGreatDoor
open Go.RowKit

section
variable {nr mm : Nat} {rows : List (List Int)} {acr ws bg ps : List Int}
theorem plAt_of {r : Nat} {x : Int} (hx : ps[r]? = some x) : plAt ps (r : Int) = x := by
  unfold plAt
  rw [Int.toNat_natCast, List.getD_eq_getElem?_getD, hx]
  rfl
theorem rowAt_get {r : Nat} {row : List Int} (h : rows[r]? = some row) : rowAt rows (r : Int) = row := by
  unfold rowAt
  rw [Int.toNat_natCast, List.getD_eq_getElem?_getD, h]
  rfl
theorem Painted.at_ (h : Painted nr rows acr (givenS mm) (presentL ws bg nr) ps) (hm : mm ≤ 14) {r : Nat} {x : Int} (hr : r < nr) (hx : ps[r]? = some x) :
    (x = -1 ∧ presentB ws bg (r : Int) = false) ∨ (0 ≤ x ∧ presentB ws bg (r : Int) = true ∧ ((x ∈ givenS mm ∧ (6 ≤ x ∨ (r : Int) ∉ acr)) ∨ 16 ≤ x)) := by
  have e := plAt_of hx
  cases hp : presentB ws bg (r : Int) with
  | false =>
    refine .inl ⟨?_, rfl⟩
    rw [← e]
    exact h.unset _ (by omega) (by omega) fun hm => by rw [(presentL_mem.1 hm).2] at hp; cases hp
  | true =>
    have hm' : (r : Int) ∈ presentL ws bg nr := presentL_mem.2 ⟨⟨by omega, by omega⟩, hp⟩
    have hg := h.got _ hm'
    rw [e] at hg
    refine .inr ⟨?_, rfl, hg⟩
    rcases hg with hg | hg
    · exact (givenS_range hm hg.1).1
    · omega
theorem Painted.in_ (h : Painted nr rows acr (givenS mm) (presentL ws bg nr) ps) {r : Nat} {x : Int} (hr : r < nr) (hx : ps[r]? = some x) (h0 : 0 ≤ x) : (r : Int) ∈ presentL ws bg nr := by
  apply Classical.byContradiction
  intro hn
  have := h.unset (r : Int) (by omega) (by omega) hn
  rw [plAt_of hx] at this
  omega
theorem Painted.far (h : Painted nr rows acr (givenS mm) (presentL ws bg nr) ps) {r : Nat} {x : Int} (hr : r < nr) (hx : ps[r]? = some x) (h0 : 0 ≤ x) {row : List Int} (hrow : rows[r]? = some row) {o : Nat} (ho : (o : Int) ∈ row) {y : Int} (hy : ps[o]? = some y) : y ≠ x := by
  have := h.apart (r : Int) (h.in_ hr hx h0) (o : Int) (by rw [rowAt_get hrow]; exact ho)
  rwa [plAt_of hx, plAt_of hy] at this
theorem Painted.needs (h : Painted nr rows acr (givenS mm) (presentL ws bg nr) ps) {r : Nat} {x : Int} (hr : r < nr) (hx : ps[r]? = some x) (h16 : 16 ≤ x) {row : List Int} (hrow : rows[r]? = some row) {q : Int} (hqx : q < x)
    (hq : 16 ≤ q ∨ (q ∈ givenS mm ∧ (6 ≤ q ∨ (r : Int) ∉ acr))) : ∃ o ∈ row, plAt ps o = q := by
  have hn := h.need (r : Int) (h.in_ hr hx (by omega)) (by rw [plAt_of hx]; exact h16)
  rw [rowAt_get hrow, plAt_of hx] at hn
  rcases hq with hq | hq
  · exact hn.2 q hq hqx
  · exact hn.1 q hq.1 hq.2
end
theorem twin_weights : weightsF [] twinFs 0 = [2, 2, 2] := by kernel_rfl
theorem twin_colF : colF [] twinFs 0 2 = (0, 0) := by
  unfold colF
  rw [twin_clash]
  rfl
theorem twin_painted {ps : List Int} (h : ∀ f, twinFs[(0 : Int).toNat]? = some f → Coloured f (ofF [] twinFs 0) (acrossF [] twinFs 0) (givenS (2 : Int).toNat) (weightsF [] twinFs 0) (listS f.regs.toNat (inU f.blocks 0)) f.regs.toNat ps) :
    ∃ a b c, ps = [a, b, c] ∧ a ≠ b ∧ 0 ≤ a ∧ 0 ≤ b ∧ 0 ≤ c := by
  have hc := h ⟨mainName, 0, 3, [twinB]⟩ rfl
  have hof : ofF [] twinFs 0 = ofRows ⟨mainName, 0, 3, [twinB]⟩ := by
    unfold ofF
    rw [twin_clash]
    rfl
  have hT := turns_of ⟨mainName, 0, 3, [twinB]⟩
  rw [← hof] at hT
  have hp := hc.painted hT (by decide)
  rw [twin_rows, twin_weights] at hp
  have h3 : (⟨mainName, 0, 3, [twinB]⟩ : FunU).regs.toNat = 3 := rfl
  rw [h3] at hp
  have hpr : ∀ (bg : List Int) (r : Int), 0 ≤ r → r < 3 → r ∈ presentL [2, 2, 2] bg 3 := fun bg r h0 h1 => presentL_mem.2 ⟨⟨h0, by omega⟩, by
    unfold presentB
    have : r = 0 ∨ r = 1 ∨ r = 2 := by omega
    rcases this with rfl | rfl | rfl <;> rfl⟩
  have hge : ∀ r : Int, 0 ≤ r → r < 3 → 0 ≤ plAt ps r := fun r h0 h1 => by
    rcases hp.got r (hpr _ r h0 h1) with h | h
    · exact (givenS_range (by decide) h.1).1
    · omega
  have hl := hp.len
  match ps, hl with
  | [a, b, c], _ =>
    refine ⟨a, b, c, rfl, ?_, hge 0 (by decide) (by decide), hge 1 (by decide) (by decide), hge 2 (by decide) (by decide)⟩
    have := hp.apart 0 (hpr _ 0 (by decide) (by decide)) 1 (by simp [rowAt])
    exact fun e => this e.symm
theorem present_is {gs : List Glob} {fs : List FunU} {n nr : Nat} {f : FunU} (h0 : (clashF gs fs (n : Int)).1 = 0) (hf : fs[n]? = some f) (hnr : f.regs = (nr : Int)) {r : Nat} (hr : r < nr) :
    presentB (weightsF gs fs (n : Int)) (listS nr (inU f.blocks 0)) (r : Int) = (decide (cnt (occBs f.blocks) (r : Int) ≠ 0) || inU f.blocks 0 (r : Int)) := by
  have hw : weightsF gs fs (n : Int) = tally nr (occBs f.blocks) := by
    unfold weightsF
    rw [if_neg (by rw [h0]; simp), Int.toNat_natCast, hf]
    show tally f.regs.toNat _ = _
    rw [hnr, Int.toNat_natCast]
  unfold presentB
  rw [hw, List.getD_eq_getElem?_getD, Int.toNat_natCast, tally_at hr, Option.getD_some]
  congr 1
  · unfold cnt
    rw [decide_eq_decide]
    have := Int.natCast_nonneg ((occBs f.blocks).count (r : Int))
    omega
  · rw [Bool.eq_iff_iff, hasN_iff, listS_mem]
    exact ⟨fun h => h.2.2, fun h => ⟨by omega, by omega, h⟩⟩
end Go.Proofs.YtiknhfbkphoceaaGreatDoor
