/-
  Several texts in one (LvQ LvR LvS): what each proves stands at its theorems.
  Conditions: as the theorems say.
-/
import Derived.Test.YtiknhfbkphoceaaGreatDoorLvP
namespace Go.Proofs.YtiknhfbkphoceaaGreatDoor
open Go.RowKit

theorem occV_mem {v : Opd} {r : Int} : r ∈ occV v ↔ v.reg = true ∧ v.n = r := by
  unfold occV
  split
  · rename_i h
    simp only [List.mem_singleton, h, true_and]
    exact ⟨fun e => e.symm, fun e => e.symm⟩
  · rename_i h
    simp only [List.not_mem_nil, false_iff]
    exact fun e => h e.1
theorem occVs_take {vs : List Opd} {j : Nat} {v : Opd} (h : vs[j]? = some v) : occVs (vs.take (j + 1)) = occVs (vs.take j) ++ occV v := by
  rw [List.take_succ_eq_append_getElem (List.getElem?_eq_some_iff.1 h).1, (List.getElem?_eq_some_iff.1 h).2, occVs_app, occVs_one]
theorem occVs_sub {vs : List Opd} {v : Opd} (h : v ∈ vs) {r : Int} (hr : r ∈ occV v) : r ∈ occVs vs := by
  unfold occVs
  exact List.mem_flatten.2 ⟨_, List.mem_map_of_mem h, hr⟩
theorem ret_bool' {a b : Bool} (h : a = b) : Value.bool a = Value.bool b := by rw [h]
set_option maxRecDepth 100000 in
set_option maxHeartbeats 4000000 in
theorem Takes_any (op dst : Int) (ar br : Bool) (an bm fn : Int) (aA : Option Addr) (al ac : Nat) (args : List Opd) (r : Int) (w : World) (hA : OpdsAt w w.heap.size (.slice aA al ac) args) :
    Calls Tryz.prog 46 #[.agg #[.int .i64 op, .int .i64 dst, .bool ar, .int .i64 an, .bool br, .int .i64 bm, .int .i64 fn, .slice aA al ac], .int .i64 r] w fun e w' => e = .returned (.bool (takesU ⟨op, dst, ⟨ar, an⟩, ⟨br, bm⟩, fn, args⟩ r)) ∧ Below w.heap.size w w' := by
  have HA := Lib.hid hA
  have hal := SlAt.len hA
  have Hal := Lib.hid hal
  have hal63 : al ≤ 9223372036854775807 := by
    obtain ⟨A', c', e, h1, h2⟩ := SlAt.form hA
    omega
  have HB0 : Hid (Below w.heap.size w (w.alloc (.cells #[.int .i64 op, .int .i64 dst, .bool ar, .int .i64 an, .bool br, .int .i64 bm, .int .i64 fn, .slice aA al ac] 69))) := Lib.hid ((Below.refl _ _).alloc (Nat.le_refl _) _)
  have HX0 : Hid (Blk (w.alloc (.cells #[.int .i64 op, .int .i64 dst, .bool ar, .int .i64 an, .bool br, .int .i64 bm, .int .i64 fn, .slice aA al ac] 69)) w.heap.size 69 #[.int .i64 op, .int .i64 dst, .bool ar, .int .i64 an, .bool br, .int .i64 bm, .int .i64 fn, .slice aA al ac]) := Lib.hid (Blk.new _ _ _)
  have HT : Hid (takesU ⟨op, dst, ⟨ar, an⟩, ⟨br, bm⟩, fn, args⟩ r = (decide (r ∈ occV ⟨ar, an⟩ ++ occV ⟨br, bm⟩) || decide (r ∈ occVs args))) := Lib.hid (by
    unfold takesU
    rw [Bool.eq_iff_iff]
    simp only [Bool.or_eq_true, decide_eq_true_eq, List.mem_append])
  clear hA hal
  go_enter Tryz.func46, Tryz.ntmps46
  go_upto_region 1 with fail
  generalize w.alloc (.cells #[.int .i64 op, .int .i64 dst, .bool ar, .int .i64 an, .bool br, .int .i64 bm, .int .i64 fn, .slice aA al ac] 69) = W0 at *
  have x2 := HX0.out.cell 2
  have x3 := HX0.out.cell 3
  have x4 := HX0.out.cell 4
  have x5 := HX0.out.cell 5
  have x6 := HX0.out.cell 7
  go_cut [27] from 6 to 26 (fun s wx => s = .bool (decide (r ∈ occV ⟨ar, an⟩ ++ occV ⟨br, bm⟩)) ∧ wx = W0)
  case first =>
    have HD : Hid ((decide (r ∈ occV ⟨ar, an⟩ ++ occV ⟨br, bm⟩)) = ((ar && decide (an = r)) || (br && decide (bm = r)))) := Lib.hid (by
      rw [Bool.eq_iff_iff]
      simp only [List.mem_append, occV_mem, decide_eq_true_eq, Bool.or_eq_true, Bool.and_eq_true])
    cases ar with
    | true =>
      by_cases h1 : an = r
      · have h1b : (an == r) = true := by simpa using h1
        have HR : Hid ((decide (r ∈ occV ⟨true, an⟩ ++ occV ⟨br, bm⟩)) = true) := Lib.hid (by rw [HD.out, decide_eq_true h1]; simp)
        clear h1
        go_wp2_with fail
        go_meet
        exact ⟨ret_bool' HR.out.symm, rfl⟩
      · have h1b : (an == r) = false := by simpa using h1
        cases br with
        | true =>
          have HR : Hid ((decide (r ∈ occV ⟨true, an⟩ ++ occV ⟨true, bm⟩)) = (bm == r)) := Lib.hid (by rw [HD.out, decide_eq_false h1]; by_cases h : bm = r <;> simp [h])
          clear h1
          go_wp2_with fail
          go_meet
          exact ⟨ret_bool' HR.out.symm, rfl⟩
        | false =>
          have HR : Hid ((decide (r ∈ occV ⟨true, an⟩ ++ occV ⟨false, bm⟩)) = false) := Lib.hid (by rw [HD.out, decide_eq_false h1]; simp)
          clear h1
          go_wp2_with fail
          go_meet
          exact ⟨ret_bool' HR.out.symm, rfl⟩
    | false =>
      cases br with
      | true =>
        have HR : Hid ((decide (r ∈ occV ⟨false, an⟩ ++ occV ⟨true, bm⟩)) = (bm == r)) := Lib.hid (by rw [HD.out]; by_cases h : bm = r <;> simp [h])
        go_wp2_with fail
        go_meet
        exact ⟨ret_bool' HR.out.symm, rfl⟩
      | false =>
        have HR : Hid ((decide (r ∈ occV ⟨false, an⟩ ++ occV ⟨false, bm⟩)) = false) := Lib.hid (by rw [HD.out]; simp)
        go_wp2_with fail
        go_meet
        exact ⟨ret_bool' HR.out.symm, rfl⟩
  case rest =>
    obtain ⟨rfl, rfl⟩ := hcut
    clear x2 x3 x4 x5
    generalize hH : decide (r ∈ occV ⟨ar, an⟩ ++ occV ⟨br, bm⟩) = hh at *
    cases hh with
    | true =>
      have HR : Hid (takesU ⟨op, dst, ⟨ar, an⟩, ⟨br, bm⟩, fn, args⟩ r = true) := Lib.hid (by rw [HT.out]; rfl)
      clear hH
      go_wp2_with fail
      go_ret
      exact ⟨ret_bool HR.out.symm, HB0.out⟩
    | false =>
      have HR : Hid (takesU ⟨op, dst, ⟨ar, an⟩, ⟨br, bm⟩, fn, args⟩ r = decide (r ∈ occVs args)) := Lib.hid (by rw [HT.out]; rfl)
      clear hH
      go_wp2_with fail
      go_loopg [5] al (fun gk i wr => ∃ j : Nat, j + gk = al ∧ i = .int .i64 (j : Int) ∧ wr = wc ∧ Hid (r ∉ occVs (args.take j)))
      case atStart => exact ⟨0, by omega, rfl, rfl, Lib.hid (by simp [occVs])⟩
      case round =>
        obtain ⟨j, hj, rfl, rfl, HN⟩ := hrel
        rcases gk with _ | mk
        · have hjt : ¬ (j : Int) < (al : Int) := by omega
          have HE : Hid (takesU ⟨op, dst, ⟨ar, an⟩, ⟨br, bm⟩, fn, args⟩ r = false) := Lib.hid (by
            have h := HN.out
            rw [List.take_of_length_le (by rw [Hal.out]; omega)] at h
            rw [HR.out, decide_eq_false h])
          go_wp2_with fail
          go_ret
          exact ⟨ret_bool HE.out.symm, HB0.out⟩
        · have hjt : (j : Int) < (al : Int) := by omega
          have hj0 : (0 : Int) ≤ (j : Int) := Int.natCast_nonneg j
          obtain ⟨v, hv⟩ : ∃ v, args[j]? = some v := ⟨args[j]'(by rw [Hal.out]; omega), List.getElem?_eq_getElem _⟩
          obtain ⟨ab, ao, rfl, hab, c0, c1⟩ := opd_at HA.out hv
          have c0 := (bcell HB0.out hab).trans c0
          have c1 := (bcell HB0.out hab).trans c1
          have HV := Lib.hid hv
          have hNs : Hid (∀ h : ¬ (v.reg = true ∧ v.n = r), r ∉ occVs (args.take (j + 1))) := Lib.hid (fun h hm => by
            rw [occVs_take HV.out, List.mem_append] at hm
            rcases hm with h1 | h1
            · exact HN.out h1
            · exact h (occV_mem.1 h1))
          obtain ⟨vr, vn⟩ := v
          clear hv
          simp only at c0 c1 hNs
          cases vr with
          | true =>
            by_cases h1 : vn = r
            · have h1b : (vn == r) = true := by simpa using h1
              have HE : Hid (takesU ⟨op, dst, ⟨ar, an⟩, ⟨br, bm⟩, fn, args⟩ r = true) := Lib.hid (by
                rw [HR.out, decide_eq_true (occVs_sub (List.mem_of_getElem? HV.out) (occV_mem.2 ⟨rfl, h1⟩))])
              clear h1
              go_wp2_with fail
              go_ret
              exact ⟨ret_bool HE.out.symm, HB0.out⟩
            · have h1b : (vn == r) = false := by simpa using h1
              have HN2 := Lib.hid (hNs.out (fun h => h1 h.2))
              clear h1
              go_wp2_with fail
              go_roundg mk
              case measure => omega
              case rel => exact ⟨j + 1, by omega, by go_num, (by trivial), HN2⟩
          | false =>
            have HN2 := Lib.hid (hNs.out (fun h => by cases h.1))
            go_wp2_with fail
            go_roundg mk
            case measure => omega
            case rel => exact ⟨j + 1, by omega, by go_num, (by trivial), HN2⟩
end Go.Proofs.YtiknhfbkphoceaaGreatDoor
namespace Go.Proofs.YtiknhfbkphoceaaGreatDoor
open Go.RowKit

theorem upTo_at {xs : List InsU} {S T : Int → Bool} {r : Int} (h : S r = T r) : upTo xs S r = upTo xs T r := by
  induction xs with
  | nil => exact h
  | cons x xs ih => simp only [upTo, ih]
theorem upTo_up {xs : List InsU} {S T : Int → Bool} {r : Int} (h : S r = true → T r = true) (hr : upTo xs S r = true) : upTo xs T r = true := by
  induction xs with
  | nil => exact h hr
  | cons x xs ih =>
    simp only [upTo, Bool.or_eq_true, Bool.and_eq_true] at hr ⊢
    rcases hr with h1 | ⟨h1, h2⟩
    · exact .inl h1
    · exact .inr ⟨ih h1, h2⟩
theorem endU_up {b : BlkU} {I J : Nat → Int → Bool} {r : Int} (h : ∀ t, I t r = true → J t r = true) (hr : endU b I r = true) : endU b J r = true := by
  unfold endU at *
  simp only [Bool.or_eq_true, List.any_eq_true] at *
  rcases hr with h1 | ⟨t, ht, h1⟩
  · exact .inl h1
  · exact .inr ⟨t, ht, h _ h1⟩
theorem endU_at {b : BlkU} {I J : Nat → Int → Bool} {r : Int} (h : ∀ t, I t r = J t r) : endU b I r = endU b J r := by
  rw [Bool.eq_iff_iff]
  exact ⟨endU_up fun t ht => by rw [← h t]; exact ht, endU_up fun t ht => by rw [h t]; exact ht⟩
/-- A block's row anew, by what stands ahead of each block. -/
def newR (bs : List BlkU) (r : Int) (O : Nat → Nat → Bool) (i k : Nat) : Bool := match bs[i]? with
  | some b => upTo (b.list.drop k) (endU b fun t _ => O t 0) r
  | none => false
theorem newR_some {bs : List BlkU} {r : Int} {O : Nat → Nat → Bool} {i k : Nat} {b : BlkU} (h : bs[i]? = some b) : newR bs r O i k = upTo (b.list.drop k) (endU b fun t _ => O t 0) r := by unfold newR; rw [h]
theorem newR_up {bs : List BlkU} {r : Int} {O Q : Nat → Nat → Bool} (h : ∀ t, O t 0 = true → Q t 0 = true) (i k : Nat) (hr : newR bs r O i k = true) : newR bs r Q i k = true := by
  unfold newR at *
  split at hr
  · exact upTo_up (endU_up h) hr
  · cases hr
theorem newR_at {bs : List BlkU} {r : Int} {O Q : Nat → Nat → Bool} (h : ∀ t, O t 0 = Q t 0) (i k : Nat) : newR bs r O i k = newR bs r Q i k := by
  rw [Bool.eq_iff_iff]
  exact ⟨newR_up (fun t ht => by rw [← h t]; exact ht) i k, newR_up (fun t ht => by rw [h t]; exact ht) i k⟩
theorem newR_live {bs : List BlkU} {r : Int} {O : Nat → Nat → Bool} (h : ∀ t, O t 0 = true → inU bs t r = true) (i k : Nat) (hr : newR bs r O i k = true) : atU bs i k r = true := by
  unfold newR at hr
  split at hr
  · rename_i b hb
    rw [atU_at hb]
    exact upTo_up (endU_up h) hr
  · cases hr
structure GoodR (bs : List BlkU) (r : Int) (O : Nat → Nat → Bool) : Prop where
  live : ∀ i k, O i k = true → atU bs i k r = true
  up : ∀ i k, O i k = true → newR bs r O i k = true
theorem GoodR.none (bs : List BlkU) (r : Int) : GoodR bs r (fun _ _ => false) := ⟨fun _ _ h => Bool.noConfusion h, fun _ _ h => Bool.noConfusion h⟩
theorem GoodR.head {bs : List BlkU} {r : Int} {O : Nat → Nat → Bool} (h : GoodR bs r O) (t : Nat) (ht : O t 0 = true) : inU bs t r = true := by rw [← atU_zero]; exact h.live t 0 ht
/-- A block's row anew, from some place on. -/
def putR (bs : List BlkU) (r : Int) (O : Nat → Nat → Bool) (i k0 : Nat) (i' k : Nat) : Bool := if i' = i ∧ k0 ≤ k then newR bs r O i k else O i' k
theorem putR_ge {bs : List BlkU} {r : Int} {O : Nat → Nat → Bool} (h : GoodR bs r O) (i k0 i' k : Nat) (ho : O i' k = true) : putR bs r O i k0 i' k = true := by
  unfold putR
  split
  · rename_i e; obtain ⟨rfl, _⟩ := e; exact h.up _ _ ho
  · exact ho
theorem GoodR.put {bs : List BlkU} {r : Int} {O : Nat → Nat → Bool} (h : GoodR bs r O) (i k0 : Nat) : GoodR bs r (putR bs r O i k0) := by
  refine ⟨fun i' k hp => ?_, fun i' k hp => newR_up (fun t ht => putR_ge h i k0 t 0 ht) i' k ?_⟩
  · unfold putR at hp
    split at hp
    · rename_i e; obtain ⟨rfl, _⟩ := e; exact newR_live h.head _ _ hp
    · exact h.live _ _ hp
  · unfold putR at hp
    split at hp
    · rename_i e; obtain ⟨rfl, _⟩ := e; exact hp
    · exact h.up _ _ hp
/-- The places of a function. -/
def lenR (bs : List BlkU) (i : Nat) : Nat := match bs[i]? with | some b => b.list.length | none => 0
theorem lenR_some {bs : List BlkU} {i : Nat} {b : BlkU} (h : bs[i]? = some b) : lenR bs i = b.list.length := by unfold lenR; rw [h]
def placesR (bs : List BlkU) : List (Nat × Nat) := (List.range bs.length).flatMap fun i => (List.range (lenR bs i + 1)).map fun k => (i, k)
def cntR (bs : List BlkU) (O : Nat → Nat → Bool) : Nat := (placesR bs).countP fun p => O p.1 p.2
theorem cntR_le (bs : List BlkU) (O : Nat → Nat → Bool) : cntR bs O ≤ (placesR bs).length := List.countP_le_length
theorem cntR_up {bs : List BlkU} {O Q : Nat → Nat → Bool} (h : ∀ i k, O i k = true → Q i k = true) : cntR bs O ≤ cntR bs Q := List.countP_mono_left fun _ _ hp => h _ _ hp
theorem cntR_less {bs : List BlkU} {O Q : Nat → Nat → Bool} (h : ∀ i k, O i k = true → Q i k = true) {i k : Nat} (hi : i < bs.length) (hk : k ≤ lenR bs i) (h1 : O i k = false) (h2 : Q i k = true) : cntR bs O < cntR bs Q :=
  countP_less (fun _ _ hp => h _ _ hp) ⟨(i, k), by simp [placesR, hi]; omega, h1, h2⟩
/-- The rows from block j on are what they come to. -/
def DoneR (bs : List BlkU) (r : Int) (O : Nat → Nat → Bool) (j : Nat) : Prop := ∀ i, j ≤ i → i < bs.length → ∀ k, k ≤ lenR bs i → O i k = newR bs r O i k
theorem DoneR.put {bs : List BlkU} {r : Int} {O : Nat → Nat → Bool} {i : Nat} (hg : GoodR bs r O) (h : DoneR bs r O (i + 1)) (hs : ∀ k, k ≤ lenR bs i → newR bs r O i k = true → O i k = true) : DoneR bs r (putR bs r O i 0) i := by
  have hh : ∀ t, putR bs r O i 0 t 0 = O t 0 := fun t => by
    unfold putR
    split
    · rename_i e
      obtain ⟨rfl, _⟩ := e
      rw [Bool.eq_iff_iff]
      exact ⟨hs 0 (Nat.zero_le _), hg.up _ _⟩
    · rfl
  intro i' hi hl k hk
  rw [newR_at hh]
  unfold putR
  split
  · rename_i e; obtain ⟨rfl, _⟩ := e; rfl
  · rename_i e
    exact h i' (by rcases Nat.eq_or_lt_of_le hi with e2 | e2; exact absurd ⟨e2.symm, Nat.zero_le _⟩ e; exact e2) hl k hk
theorem doneR_all {bs : List BlkU} {r : Int} {O : Nat → Nat → Bool} (hg : GoodR bs r O) (h : DoneR bs r O 0) (i : Nat) (hi : i < bs.length) (k : Nat) (hk : k ≤ lenR bs i) : O i k = atU bs i k r := by
  have hin : ∀ t, inU bs t r = true → O t 0 = true := fun t ht => by
    have := inU_least (I := fun j s => if s = r then O j 0 else inU bs j s) (fun j s hs => by
      unfold stepU at hs
      split at hs
      · rename_i b hb
        by_cases e : s = r
        · subst e
          rw [if_pos rfl, h j (Nat.zero_le _) (List.getElem?_eq_some_iff.1 hb).1 0 (Nat.zero_le _), newR_some hb, List.drop_zero]
          rw [upTo_at (endU_at (J := fun t _ => O t 0) fun t => by simp)] at hs
          exact hs
        · rw [if_neg e]
          refine inU_step j s ?_
          rw [stepU_at hb]
          rw [upTo_at (endU_at (J := inU bs) fun t => by simp [e])] at hs
          exact hs
      · cases hs) t r ht
    simpa using this
  have hh : ∀ t, O t 0 = inU bs t r := fun t => by
    rw [Bool.eq_iff_iff]
    exact ⟨hg.head t, hin t⟩
  rw [h i (Nat.zero_le _) hi k hk]
  obtain ⟨b, hb⟩ : ∃ b, bs[i]? = some b := ⟨bs[i], List.getElem?_eq_getElem hi⟩
  rw [newR_some hb, atU_at hb]
  exact upTo_at (endU_at hh)
end Go.Proofs.YtiknhfbkphoceaaGreatDoor
namespace Go.Proofs.YtiknhfbkphoceaaGreatDoor
open Go.RowKit

def rowB (m : Nat) (f : Nat → Bool) : List Bool := (List.range m).map f
theorem rowB_len (m : Nat) (f : Nat → Bool) : (rowB m f).length = m := by simp [rowB]
theorem rowB_at {m : Nat} {f : Nat → Bool} {k : Nat} (h : k < m) : (rowB m f)[k]? = some (f k) := by
  unfold rowB
  rw [List.getElem?_map, List.getElem?_range h]
  rfl
theorem rowB_set {m : Nat} {f f' : Nat → Bool} {k : Nat} {x : Bool} (h : ∀ q, q < m → f' q = if q = k then x else f q) : (rowB m f).set k x = rowB m f' := by
  apply List.ext_getElem?
  intro j
  rcases Nat.lt_or_ge j m with hj | hj
  · rw [List.getElem?_set, rowB_at hj, rowB_at hj, h j hj]
    by_cases e : k = j
    · subst e
      rw [if_pos rfl, if_pos rfl, rowB_len, if_pos hj]
    · rw [if_neg e, if_neg (fun e' => e e'.symm)]
  · rw [List.getElem?_eq_none (by rw [List.length_set, rowB_len]; exact hj), List.getElem?_eq_none (by rw [rowB_len]; exact hj)]
theorem rowB_congr {m : Nat} {f f' : Nat → Bool} (h : ∀ q, q < m → f q = f' q) : rowB m f = rowB m f' := by
  unfold rowB
  apply List.map_congr_left
  intro q hq
  exact h q (by simpa using hq)
theorem rowB_none (m : Nat) : rowB m (fun _ => false) = List.replicate m false := by unfold rowB; simp [List.map_const']
def rowV (g : Nat × Nat) : Value := .slice (some ⟨g.1, 0, none⟩) g.2 g.2
/-- The call owns a slice of rows of bools. -/
structure BoolsOwn (w : World) (base : Nat) (v : Value) (gs : List (Nat × Nat)) (O : Nat → Nat → Bool) : Prop where
  own : w.ownsRow base 52 1 v gs.length (gs.map rowV)
  row : ∀ (i : Nat) (g : Nat × Nat), gs[i]? = some g → base ≤ g.1 ∧ Blk w g.1 4 (boolsT [] (rowB g.2 (O i)))
  apart : ∀ (i j : Nat) (g g' : Nat × Nat), gs[i]? = some g → gs[j]? = some g' → i ≠ j → g.1 ≠ g'.1
section
variable {w w' : World} {base : Nat} {v v' : Value} {gs : List (Nat × Nat)} {O Q : Nat → Nat → Bool}
theorem BoolsOwn.nil (w : World) (base : Nat) (O : Nat → Nat → Bool) : BoolsOwn w base (.slice none 0 0) [] O := ⟨World.ownsRow_nil _ _ _ _, fun i g h => by simp at h, fun i j g g' h => by simp at h⟩
theorem BoolsOwn.below (h : BoolsOwn w base v gs O) (hb : Below w.heap.size w w') : BoolsOwn w' base v gs O :=
  ⟨row_lt h.own hb, fun i g hg => ⟨(h.row i g hg).1, (h.row i g hg).2.below hb (h.row i g hg).2.lt⟩, h.apart⟩
theorem BoolsOwn.form (h : BoolsOwn w base v gs O) : ∃ A c, v = .slice A gs.length c := row_form h.own
theorem BoolsOwn.congr (h : BoolsOwn w base v gs O) (e : ∀ i g, gs[i]? = some g → ∀ k, k < g.2 → O i k = Q i k) : BoolsOwn w base v gs Q :=
  ⟨h.own, fun i g hg => ⟨(h.row i g hg).1, by rw [← rowB_congr (e i g hg)]; exact (h.row i g hg).2⟩, h.apart⟩
theorem BoolsOwn.snoc {H : Nat} {g : Nat × Nat} (h : BoolsOwn w base v gs O) (hg : base ≤ g.1) (hs : Blk w g.1 4 (boolsT [] (rowB g.2 (O gs.length)))) (hn : ∀ (i : Nat) (g' : Nat × Nat), gs[i]? = some g' → g'.1 ≠ g.1)
    (ha : Appended w base 52 1 v (gs.length + 1) (gs.map rowV ++ [rowV g]) H v' w') : BoolsOwn w' base v' (gs ++ [g]) O := by
  have key : ∀ (i : Nat) (q : Nat × Nat), (gs ++ [g])[i]? = some q → (gs[i]? = some q ∧ i < gs.length) ∨ (i = gs.length ∧ q = g) := fun i q hq => by
    rcases Nat.lt_or_ge i gs.length with hi | hi
    · rw [List.getElem?_append_left hi] at hq
      exact .inl ⟨hq, hi⟩
    · rw [List.getElem?_append_right hi] at hq
      rcases Nat.eq_or_lt_of_le hi with he | he
      · rw [← he, Nat.sub_self] at hq
        simp only [List.getElem?_cons_zero, Option.some.injEq] at hq
        exact .inr ⟨he.symm, hq.symm⟩
      · rw [List.getElem?_eq_none (by simp; omega)] at hq
        cases hq
  refine ⟨by rw [List.length_append, List.map_append]; exact ha.own, fun i q hq => ?_, fun i j q q' hq hq' hij => ?_⟩
  · rcases key i q hq with ⟨h1, _⟩ | ⟨rfl, rfl⟩
    · exact ⟨(h.row i q h1).1, ha.blk h.own (h.row i q h1).2 (by decide)⟩
    · exact ⟨hg, ha.blk h.own hs (by decide)⟩
  · rcases key i q hq with ⟨h1, _⟩ | ⟨rfl, rfl⟩
    · rcases key j q' hq' with ⟨h2, _⟩ | ⟨rfl, rfl⟩
      · exact h.apart i j q q' h1 h2 hij
      · exact hn i q h1
    · rcases key j q' hq' with ⟨h2, _⟩ | ⟨rfl, rfl⟩
      · exact fun e => hn j q' h2 e.symm
      · exact absurd rfl hij
theorem BoolsOwn.cell {A : Option Addr} {l c : Nat} (h : BoolsOwn w base (.slice A l c) gs O) {i : Nat} (hi : i < l) : ∃ g0 g, A = some ⟨g0, 0, none⟩ ∧ gs[i]? = some g ∧ w.cell? ⟨g0, i, none⟩ = some (rowV g) ∧ base ≤ g.1 ∧ Blk w g.1 4 (boolsT [] (rowB g.2 (O i))) := by
  rcases h.own.2 with ⟨e, hn⟩ | ⟨g0, cap, cur, e, _⟩
  · injection e; omega
  · injection e with e1 e2 e3
    subst e1; subst e2; subst e3
    obtain ⟨g, hg⟩ : ∃ g, gs[i]? = some g := ⟨gs[i], List.getElem?_eq_getElem _⟩
    exact ⟨g0, g, rfl, hg, row_cell h.own (by rw [List.getElem?_map, hg]; rfl), h.row i g hg⟩
/-- One bit written. -/
theorem BoolsOwn.set {i k : Nat} {g : Nat × Nat} {x : Bool} (h : BoolsOwn w base v gs O) (hg : gs[i]? = some g) (hk : k < g.2) (hQ : ∀ i' q, Q i' q = if i' = i ∧ q = k then x else O i' q) : BoolsOwn (w.setCell ⟨g.1, k, none⟩ (.bool x)) base v gs Q := by
  have hb := (h.row i g hg).2
  refine ⟨row_far h.own hb (by decide) _, fun j q hq => ?_, h.apart⟩
  refine ⟨(h.row j q hq).1, ?_⟩
  by_cases e : i = j
  · subst e
    rw [hg] at hq
    injection hq with hq
    subst hq
    have h2 := hb.set_ k (.bool x)
    rw [boolsT_set _ _ _ _ (by rw [rowB_len]; exact hk), rowB_set (f' := Q i) (fun q _ => by rw [hQ]; simp)] at h2
    exact h2
  · have e2 : rowB q.2 (Q j) = rowB q.2 (O j) := rowB_congr fun z _ => by rw [hQ, if_neg (fun e3 => e e3.1.symm)]
    rw [e2]
    exact (h.row j q hq).2.far (p := ⟨g.1, k, none⟩) (h.apart j i q g hq hg (fun e3 => e e3.symm)) _
end
theorem infoBools : (Tryz.prog.info? 52).map (fun i => (i.zero, i.size, i.bytes)) = some (some (.slice none 0 0), 1, 24) := by kernel_rfl
/-- What stands while the reference reckons. -/
structure RNow (w : World) (gf : Nat) (fc : Array Value) (bs : List BlkU) (v : Value) (gs : List (Nat × Nat)) (O : Nat → Nat → Bool) (wr : World) : Prop where
  below : Below w.heap.size w wr
  far : w.heap.size ≤ gf
  fn : Blk wr gf 43 fc
  rows : BoolsOwn wr w.heap.size v gs O
  len : ∀ i g, gs[i]? = some g → g.2 = lenR bs i + 1
section
variable {w wr w' : World} {gf : Nat} {fc : Array Value} {bs : List BlkU} {v : Value} {gs : List (Nat × Nat)} {O Q : Nat → Nat → Bool}
theorem RNow.next (h : RNow w gf fc bs v gs O wr) (hb : Below wr.heap.size wr w') : RNow w gf fc bs v gs O w' := ⟨h.below.trans (hb.mono h.below.size), h.far, h.fn.below hb h.fn.lt, h.rows.below hb, h.len⟩
theorem RNow.set {i k : Nat} {g : Nat × Nat} {x : Bool} (h : RNow w gf fc bs v gs O wr) (hg : gs[i]? = some g) (hk : k ≤ lenR bs i) (hQ : ∀ i' q, Q i' q = if i' = i ∧ q = k then x else O i' q) : RNow w gf fc bs v gs Q (wr.setCell ⟨g.1, k, none⟩ (.bool x)) := by
  have hb := (h.rows.row i g hg)
  exact ⟨h.below.setCell hb.1 _, h.far, h.fn.far (p := ⟨g.1, k, none⟩) (blk_ne h.fn hb.2 (by decide)) _, h.rows.set hg (by rw [h.len i g hg]; omega) hQ, h.len⟩
theorem RNow.blk {g2 : Nat} {t : TypeId} {cs : Array Value} {i k : Nat} {g : Nat × Nat} {x : Value} (h : RNow w gf fc bs v gs O wr) (hg : gs[i]? = some g) (hb : Blk wr g2 t cs) (ht : t ≠ 4) : Blk (wr.setCell ⟨g.1, k, none⟩ x) g2 t cs :=
  hb.far (p := ⟨g.1, k, none⟩) (blk_ne hb (h.rows.row i g hg).2 ht) _
end
end Go.Proofs.YtiknhfbkphoceaaGreatDoor
