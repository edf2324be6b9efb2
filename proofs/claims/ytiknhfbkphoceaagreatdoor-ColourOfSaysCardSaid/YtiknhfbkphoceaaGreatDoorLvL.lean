/-
  Several texts in one (LvJ LvK LvL): what each proves stands at its theorems.
  Conditions: as the theorems say.
-/
import Derived.Test.YtiknhfbkphoceaaGreatDoorLvI
import Derived.Maps.OwnSet
import Derived.Maps.OwnIn
import Derived.Sort.MapsRangeIn
import Derived.Maps.RangeWalk
import Derived.Test.YtiknhfbkphoceaaGreatDoorShg
import Derived.Sort.OwnSortedInts
import Derived.Shelf.Slices.In.SortNone
namespace Go.Proofs.YtiknhfbkphoceaaGreatDoor
open Go.RowKit
open Go.ChangeMaps Go.MapKept Go.WideShapes
open Go.WideElems (Fit rd rg pl rd_val rd_key rg_of elemAt)

/-- So many different numbers below m are at most m. -/
theorem nodup_below : ∀ (m : Nat) (l : List Nat), l.Nodup → (∀ x ∈ l, x < m) → l.length ≤ m
  | 0, l, _, h => by
    cases l with
    | nil => simp
    | cons a l => exact absurd (h a (by simp)) (Nat.not_lt_zero _)
  | m + 1, l, hd, h => by
    by_cases hm : m ∈ l
    · have h1 := nodup_below m (l.erase m) (hd.erase m) (fun x hx => by
        have h2 := (hd.mem_erase_iff).1 hx
        have := h x h2.2
        have h3 := h2.1
        omega)
      rw [List.length_erase_of_mem hm] at h1
      have : 0 < l.length := List.length_pos_of_mem hm
      omega
    · have h1 := nodup_below m l hd (fun x hx => by
        have := h x hx
        have h3 : x ≠ m := fun e => hm (e ▸ hx)
        omega)
      omega
theorem regKeyed : Maps.Keyed Tryz.prog 3 := Maps.int_keyed Tryz.underlying3
theorem regKey {x : Int} (h : (Lit.int .i64 x).wf = true) : keyOf Tryz.prog 3 (.int .i64 x) = some (.int .i64 x) := Maps.keyOf_int_mk Tryz.underlying3 h
/-- Block b is a map whose keys are a set of registers below nr. -/
def RegSet (w : World) (b nr : Nat) (S : Int → Bool) : Prop :=
  (∃ D, w.ownsMap Tryz.prog 3 (unitElem (H := Unit)) b (Maps.size D) D ∧ ∀ x, (Lit.int .i64 x).wf = true → Maps.has D (.int .i64 x) = S x) ∧ ∀ x, S x = true → 0 ≤ x ∧ x < (nr : Int)
section
variable {w w' : World} {b nr n : Nat} {S : Int → Bool}
theorem owns_size {k : TypeId} {R : Value → Option (DataW Unit × List MemPlace)} {P : Program} {D : DataW Unit} (h : w.ownsMap P k R b n D) : w.ownsMap P k R b (Maps.size D) D := by
  obtain ⟨es, clock, hb, F, _, rfl⟩ := h
  exact ⟨es, clock, hb, F, by simp [Maps.size, length_sorted], rfl⟩
theorem wf_reg {x : Int} {nr : Nat} (hn : nr ≤ 100) (h : 0 ≤ x ∧ x < (nr : Int)) : (Lit.int .i64 x).wf = true := WalkArith.wf_i64 (by omega)
set_option maxRecDepth 100000 in
theorem regset_size {D : DataW Unit} (h : w.ownsMap Tryz.prog 3 (unitElem (H := Unit)) b n D) (hD : ∀ x, (Lit.int .i64 x).wf = true → Maps.has D (.int .i64 x) = S x) (hS : ∀ x, S x = true → 0 ≤ x ∧ x < (nr : Int)) : Maps.size D ≤ nr := by
  obtain ⟨es, clock, hb, F, _, rfl⟩ := h
  have hk : ∀ e ∈ es.toList, ∃ x : Int, e.key = .int .i64 x ∧ 0 ≤ x ∧ x < (nr : Int) := fun e he => by
    obtain ⟨y, hy⟩ := F.reads e he
    obtain ⟨x, h1, h2, h3⟩ := Maps.keyOf_int_inv Tryz.underlying3 (rd_key hy)
    refine ⟨x, h1, hS x ?_⟩
    rw [← hD x h3]
    have hm : rg Tryz.prog 3 (unitElem (H := Unit)) e ∈ (es.toList.map (rg Tryz.prog 3 (unitElem (H := Unit)))).foldr DataW.insert [] := mem_sorted.2 (List.mem_map_of_mem he)
    have hs : (rg Tryz.prog 3 (unitElem (H := Unit)) e).1.sameKey (.int .i64 x) = true := by
      have e1 : (rg Tryz.prog 3 (unitElem (H := Unit)) e).1 = y.1 := congrArg Prod.fst (rg_of hy)
      have hk2 := WideAt.sameKey_self (regKeyed.key (rd_key hy))
      rw [e1]
      rw [h2] at hk2 ⊢
      exact hk2
    rw [Maps.has_eq]
    exact List.any_eq_true.2 ⟨_, hm, hs⟩
  have hl : (es.toList.map fun e => match e.key with | .int _ x => x.toNat | _ => 0).length ≤ nr := by
    refine nodup_below nr _ ?_ ?_
    · rw [List.Nodup, List.pairwise_map]
      refine List.Pairwise.imp_of_mem ?_ ((stamped_iff es clock).1 F.stamped).2.2
      intro e1 e2 h1 h2 hne heq
      obtain ⟨x1, k1, _, _⟩ := hk e1 h1
      obtain ⟨x2, k2, _, _⟩ := hk e2 h2
      rw [k1, k2] at heq
      simp only at heq
      have : x1 = x2 := by omega
      exact hne (by rw [k1, k2, this])
    · intro x hx
      obtain ⟨e, he, rfl⟩ := List.mem_map.1 hx
      obtain ⟨x1, k1, h1, h2⟩ := hk e he
      rw [k1]
      simp only
      omega
  simpa [Maps.size, length_sorted] using hl
theorem RegSet.made (w : World) (nr : Nat) : RegSet (w.alloc (.map #[] 0)) w.heap.size nr (fun _ => false) :=
  ⟨⟨.map [], owns_size (World.ownsMap_made _ _ _ _), fun _ _ => rfl⟩, fun _ h => Bool.noConfusion h⟩
theorem RegSet.lt (h : RegSet w b nr S) : b < w.heap.size := by obtain ⟨⟨D, h, _⟩, _⟩ := h; exact h.lt
theorem RegSet.stay (h : RegSet w b nr S) (hb : w'.heap[b]? = w.heap[b]?) : RegSet w' b nr S := by
  obtain ⟨⟨D, ⟨es, clock, h1, h2⟩, h3⟩, h4⟩ := h
  exact ⟨⟨D, ⟨es, clock, hb.trans h1, h2⟩, h3⟩, h4⟩
theorem RegSet.below {B : Nat} (h : RegSet w b nr S) (hb : Below B w w') (hB : b < B) : RegSet w' b nr S := h.stay (hb.block b hB)
theorem RegSet.congr {T : Int → Bool} (h : RegSet w b nr S) (e : ∀ x, S x = T x) : RegSet w b nr T := (funext e : S = T) ▸ h
/-- The map's block, apart from blocks of cells. -/
theorem RegSet.ne {g : Nat} {t : TypeId} {cs : Array Value} (h : RegSet w b nr S) (hb : Blk w g t cs) : b ≠ g := by
  intro e
  subst e
  obtain ⟨⟨D, ⟨es, clock, h1, _⟩, _⟩, _⟩ := h
  rw [show w.heap[b]? = _ from hb] at h1
  cases h1
theorem ne_key {x y : Int} (h : x ≠ y) : (Lit.int .i64 x) ≠ .int .i64 y := fun e => h (by injection e)
theorem RegSet.put_ {D : DataW Unit} {x : Int} (hn : nr ≤ 100) (hD : ∀ y, (Lit.int .i64 y).wf = true → Maps.has D (.int .i64 y) = S y) (hS : ∀ y, S y = true → 0 ≤ y ∧ y < (nr : Int)) (hi : Maps.IsMap D) (hx : 0 ≤ x ∧ x < (nr : Int))
    (h : w'.ownsMap Tryz.prog 3 (unitElem (H := Unit)) b n (D.put (.int .i64 x) (.agg []))) : RegSet w' b nr (orS S [x]) := by
  refine ⟨⟨_, owns_size h, fun y hy => ?_⟩, fun y hy => ?_⟩
  · unfold orS
    by_cases e : y = x
    · subst e
      rw [Maps.has_put_same hi (regKeyed.key (regKey (wf_reg hn hx)))]
      simp
    · rw [Maps.has_put_other (ne_key e), hD y hy]
      simp [e]
  · unfold orS at hy
    simp only [Bool.or_eq_true, decide_eq_true_eq, List.mem_singleton] at hy
    rcases hy with h1 | h1
    · exact hS y h1
    · subst h1; exact hx
theorem RegSet.del_ {D : DataW Unit} {x : Int} (hD : ∀ y, (Lit.int .i64 y).wf = true → Maps.has D (.int .i64 y) = S y) (hS : ∀ y, S y = true → 0 ≤ y ∧ y < (nr : Int))
    (h : w'.ownsMap Tryz.prog 3 (unitElem (H := Unit)) b n (D.del (.int .i64 x))) : RegSet w' b nr (fun r => S r && decide (x ≠ r)) := by
  refine ⟨⟨_, owns_size h, fun y hy => ?_⟩, fun y hy => ?_⟩
  · by_cases e : y = x
    · subst e
      rw [Maps.has_del_same]
      simp
    · have e2 : x ≠ y := fun e' => e e'.symm
      rw [Maps.has_del_other (ne_key e), hD y hy]
      simp [e2]
  · simp only [Bool.and_eq_true] at hy
    exact hS y hy.1
theorem turned_but {w w' : World} {b S : Nat} (h : w.mapTurned w' b) (hS : S ≤ w.heap.size) : BelowBut b S w w' :=
  (BelowBut.refl b S w).grown h.grown hS (fun _ e => .inr (Option.some.inj e).symm)
theorem turned_size {w w' : World} {b : Nat} (h : w.mapTurned w' b) : w'.heap.size = w.heap.size := by
  obtain ⟨es, clock, es', clock', _, rfl⟩ := h
  simp [setBlock]
theorem turned_cells {w w' : World} {b : Nat} (h : w.mapTurned w' b) (g : Nat) : CellsBut g w w' := by
  refine ⟨by rw [turned_size h]; exact Nat.le_refl _, fun k o _ hk ho => ?_⟩
  obtain ⟨es, clock, es', clock', hb, rfl⟩ := h
  have hne : k ≠ b := fun e => by subst e; rw [hb] at hk; cases hk; cases ho
  unfold setBlock
  simp only
  rw [Array.getElem?_setIfInBounds_ne (fun e => hne e.symm)]
  exact hk
end
set_option maxRecDepth 100000 in
set_option maxHeartbeats 1000000 in
theorem put_any (v : Opd) (b nr : Nat) (S : Int → Bool) (w : World) (hn : nr ≤ 100) (h : RegSet w b nr S) (hv : v.reg = true → 0 ≤ v.n ∧ v.n < (nr : Int)) :
    Calls Tryz.prog 51 #[.map (some b), .agg #[.bool v.reg, .int .i64 v.n]] w fun e w' => e = .returned (.tuple #[]) ∧ RegSet w' b nr (orS S (occV v)) ∧ BelowBut b w.heap.size w w' := by
  obtain ⟨r, x⟩ := v
  have hlt := h.lt
  have HR := Lib.hid h
  cases r with
  | false =>
    have HE : Hid (orS S (occV ⟨false, x⟩) = S) := Lib.hid (by unfold occV; rw [if_neg (by simp)]; exact orS_nil S)
    clear hv h
    go_enter Tryz.func51, Tryz.ntmps51
    go_wp2_with fail
    go_end0
    exact ⟨rfl, by rw [HE.out]; exact HR.out.below ((Below.refl _ _).alloc (Nat.le_refl _) _) hlt, but_of ((Below.refl _ _).alloc (Nat.le_refl _) _)⟩
  | true =>
    have HE : Hid (orS S (occV ⟨true, x⟩) = orS S [x]) := Lib.hid (by unfold occV; rw [if_pos rfl])
    have hx := hv rfl
    simp only at hx
    have HX := Lib.hid hx
    obtain ⟨⟨D, hown, hD⟩, hS⟩ := HR.out.below ((Below.refl _ _).alloc (Nat.le_refl _) (.cells #[.bool true, .int .i64 x] 66)) hlt
    have hsz := regset_size hown hD hS
    have HD := Lib.hid (And.intro hD hS)
    have HO := Lib.hid hown
    have hkey := regKey (wf_reg hn hx)
    clear hv h hown hD hS
    go_enter Tryz.func51, Tryz.ntmps51
    go_wp2_with (at_mapUpdate; refine wpList_mapUpdate_in _ rfl _ _ _ 61 rfl 3 62 regKeyed Tryz.underlying61 _ b (Maps.size D) D rfl HO.out (by unfold maxLen; omega) _ _ (.int .i64 x) rfl rfl hkey (.agg []) [] unitElem_mk ?_; intro w1 hown1 hturn1)
    go_end0
    refine ⟨rfl, ?_, (but_of ((Below.refl _ _).alloc (Nat.le_refl _) (.cells #[.bool true, .int .i64 x] 66))).trans (turned_but hturn1 (by simp))⟩
    rw [HE.out]
    exact RegSet.put_ hn HD.out.1 HD.out.2 HO.out.isMap HX.out hown1
end Go.Proofs.YtiknhfbkphoceaaGreatDoor
namespace Go.Proofs.YtiknhfbkphoceaaGreatDoor
open Go.RowKit

/-- Two rising lists of the same numbers are one. -/
theorem rising_eq : ∀ {l m : List Int}, l.Pairwise (· < ·) → m.Pairwise (· < ·) → (∀ x, x ∈ l ↔ x ∈ m) → l = m
  | [], [], _, _, _ => rfl
  | [], b :: m, _, _, h => absurd ((h b).2 (by simp)) (by simp)
  | a :: l, [], _, _, h => absurd ((h a).1 (by simp)) (by simp)
  | a :: l, b :: m, hl, hm, h => by
    obtain ⟨h1, h2⟩ := List.pairwise_cons.1 hl
    obtain ⟨h3, h4⟩ := List.pairwise_cons.1 hm
    have hab : a = b := by
      have ha := (h a).1 (by simp)
      have hb := (h b).2 (by simp)
      rcases List.mem_cons.1 ha with e | e
      · exact e
      · rcases List.mem_cons.1 hb with e2 | e2
        · exact e2.symm
        · have := h1 b e2
          have := h3 a e
          omega
    subst hab
    congr 1
    refine rising_eq h2 h4 fun x => ⟨fun hx => ?_, fun hx => ?_⟩
    · rcases List.mem_cons.1 ((h x).1 (List.mem_cons_of_mem _ hx)) with e | e
      · have := h1 x hx
        omega
      · exact e
    · rcases List.mem_cons.1 ((h x).2 (List.mem_cons_of_mem _ hx)) with e | e
      · have := h3 x hx
        omega
      · exact e
theorem listS_rising (n : Nat) (S : Int → Bool) : (listS n S).Pairwise (· < ·) := by
  unfold listS
  rw [List.pairwise_map]
  refine List.Pairwise.filter _ ?_
  refine List.pairwise_lt_range.imp ?_
  intro a b hab
  exact Int.ofNat_lt.2 hab
theorem sorted_listS {n : Nat} {S : Int → Bool} {L : List Int} (hd : L.Nodup) (hm : ∀ x, x ∈ L ↔ 0 ≤ x ∧ x < (n : Int) ∧ S x = true) : (L.mergeSort fun x y => decide (x ≤ y)) = listS n S := by
  refine rising_eq ?_ (listS_rising n S) fun x => ?_
  · have h1 : (L.mergeSort fun x y => decide (x ≤ y)).Pairwise (fun x y => decide (x ≤ y) = true) := List.pairwise_mergeSort (fun a b c h1 h2 => by simp only [decide_eq_true_eq] at *; omega) (fun a b => by simp only [Bool.or_eq_true, decide_eq_true_eq]; omega) L
    have h2 : (L.mergeSort fun x y => decide (x ≤ y)).Nodup := (List.mergeSort_perm L _).nodup_iff.2 hd
    refine (h1.and h2).imp ?_
    rintro a b ⟨h3, h4⟩
    simp only [decide_eq_true_eq] at h3
    omega
  · rw [(List.mergeSort_perm L _).mem_iff, listS_mem, hm]
theorem Sort_own (base : Nat) (v : Value) (xs : List Int) (w : World) (h : OwnInts w base v xs) (hl : xs.length ≤ 1000) :
    Calls Tryz.prog 53 #[v] w fun e w' => e = .returned (.tuple #[]) ∧ OwnInts w' base v (xs.mergeSort fun x y => decide (x ≤ y)) ∧ Below base w w' := by
  obtain ⟨h1, ⟨rfl, h2⟩ | ⟨g, cap, cur, rfl, hg, hb, hn, hc, hs, ht⟩⟩ := h
  · have hx : xs = [] := List.eq_nil_of_length_eq_zero h2
    subst hx
    refine (Any.slices_Sort_int_none Tryz.lays189 none 0 w).mono ?_
    rintro e w' ⟨rfl, rfl⟩
    exact ⟨rfl, by rw [List.mergeSort_nil]; exact OwnInts.nil _ _, Below.refl _ _⟩
  · rw [Nat.mul_one] at ht
    refine (Any.slices_Sort_int Tryz.lays189 g 0 cap xs w (holds_of_blockI hb ht) (Array.getElem?_eq_some_iff.1 hb).1 (by omega)).mono ?_
    rintro e w' ⟨rfl, n, os, rfl⟩
    have hlen : (xs.mergeSort fun x y => decide (x ≤ y)).length = xs.length := List.length_mergeSort _
    refine ⟨rfl, ?_, ?_⟩
    · have := ownsRow_sortedI (n := n) (os := os) (ss := xs) hlen hg hb hn hc hs
      unfold OwnInts
      rw [hlen]
      exact this
    · have hgr := grownBy_sortedI (w := w) (g := g) (n := n) (os := os) (xs.mergeSort fun x y => decide (x ≤ y)).toArray
      exact grown_below hgr (Nat.le_of_lt (Nat.lt_of_le_of_lt hg (Array.getElem?_eq_some_iff.1 hb).1)) (fun k e => by cases e; exact hg)
end Go.Proofs.YtiknhfbkphoceaaGreatDoor
namespace Go.Proofs.YtiknhfbkphoceaaGreatDoor
open Go.RowKit

theorem sameKey_int (x y : Int) : (Lit.int .i64 x).sameKey (.int .i64 y) = decide (x = y) := by
  by_cases h : x = y
  · subst h; simp [Lit.sameKey]
  · simp [Lit.sameKey, h]
/-- A range over a set's map under way: L has come. -/
def Ranging (wr : World) (base b r : Nat) (D : DataW Unit) (L : List Int) (cnt : Nat) : Prop :=
  base ≤ r ∧ ∃ left, wr.ranges Tryz.prog 3 (unitElem (H := Unit)) b r (Maps.size D) D left cnt ∧ L.length + cnt ≤ Maps.size D ∧ L.Nodup ∧ (∀ kl, left kl = true → Maps.has D kl = true) ∧
    ∀ x, x ∈ L ↔ (Lit.int .i64 x).wf = true ∧ Maps.has D (.int .i64 x) = true ∧ left (.int .i64 x) = false
theorem Ranging.start {wr : World} {base b r : Nat} {D : DataW Unit} (hr : base ≤ r) (h : wr.ranges Tryz.prog 3 (unitElem (H := Unit)) b r (Maps.size D) D (Maps.has D) (Maps.size D)) : Ranging wr base b r D [] (Maps.size D) :=
  ⟨hr, _, h, by simp, List.nodup_nil, fun _ h => h, fun x => by
    constructor
    · intro h; cases h
    · rintro ⟨_, h1, h2⟩; rw [h1] at h2; cases h2⟩
theorem ranging_more {w' : World} {base b r : Nat} {D : DataW Unit} {L : List Int} {cnt cnt' : Nat} {left : Lit → Bool} {x : Int} (hr : base ≤ r) (h1 : L.length + cnt ≤ Maps.size D) (h2 : L.Nodup) (h3 : ∀ kl, left kl = true → Maps.has D kl = true)
    (h4 : ∀ x, x ∈ L ↔ (Lit.int .i64 x).wf = true ∧ Maps.has D (.int .i64 x) = true ∧ left (.int .i64 x) = false) (hwf : (Lit.int .i64 x).wf = true) (hx : left (.int .i64 x) = true) (hlt : cnt' < cnt)
    (h : w'.ranges Tryz.prog 3 (unitElem (H := Unit)) b r (Maps.size D) D (fun z => left z && !z.sameKey (.int .i64 x)) cnt') : Ranging w' base b r D (L ++ [x]) cnt' := by
  have hn : x ∉ L := fun hm => by have := ((h4 x).1 hm).2.2; rw [hx] at this; cases this
  refine ⟨hr, _, h, by simp; omega, ?_, fun kl hk => ?_, fun y => ?_⟩
  · rw [List.nodup_append]
    refine ⟨h2, by simp, ?_⟩
    intro a ha b' hb e
    simp only [List.mem_singleton] at hb
    subst hb; subst e
    exact hn ha
  · simp only [Bool.and_eq_true] at hk
    exact h3 kl hk.1
  · rw [List.mem_append, h4 y, List.mem_singleton]
    rw [sameKey_int]
    by_cases e : y = x
    · subst e
      simp [hwf, h3 _ hx]
    · simp [e]
theorem Ranging.left {wr : World} {base b r : Nat} {D : DataW Unit} {L : List Int} {cnt : Nat} (h : Ranging wr base b r D L cnt) : wr.ownsMap Tryz.prog 3 (unitElem (H := Unit)) b (Maps.size D) D := by
  obtain ⟨_, left, h, _⟩ := h
  exact h.owns
theorem Ranging.kept {wr w' : World} {base b r : Nat} {D : DataW Unit} {L : List Int} {cnt : Nat} {row : Option Nat} (h : Ranging wr base b r D L cnt) (hg : wr.grownBy w' row) (hb : some b ≠ row) (hr : some r ≠ row) : Ranging w' base b r D L cnt := by
  obtain ⟨h0, left, h1, h2⟩ := h
  exact ⟨h0, left, h1.kept hg hb hr, h2⟩
theorem row_not {w : World} {base : Nat} {e : TypeId} {size n : Nat} {v : Value} {xs : List Value} {k : Nat} {o : Obj} (h : w.ownsRow base e size v n xs) (hk : w.heap[k]? = some o) (ho : o.isCells = false) : v.ownBlock ≠ some k := by
  intro e'
  rcases h.2 with ⟨rfl, _⟩ | ⟨g, cap, cur, rfl, _, hg, _⟩
  · cases e'
  · injection e' with e'
    simp only at e'
    subst e'
    rw [hg] at hk
    cases hk
    cases ho
theorem Ranging.own {wr : World} {base b r : Nat} {D : DataW Unit} {L M : List Int} {cnt base' : Nat} {v : Value} (h : Ranging wr base b r D L cnt) (hv : OwnInts wr base' v M) : v.ownBlock ≠ some b ∧ v.ownBlock ≠ some r := by
  obtain ⟨_, left, ⟨es, clock, since, seen, c0, hb, _, _, _, hr, _⟩, _⟩ := h
  exact ⟨row_not hv hb rfl, row_not hv hr rfl⟩
theorem inv_unit (v : Value) (y : DataW Unit × List MemPlace) (h : unitElem v = some y) : ∃ c : Unit, v = (fun _ => .agg #[]) c := ⟨(), (unitElem_inv h).1⟩
theorem inv_key (key : Value) (kl : Lit) (h : keyOf Tryz.prog 3 key = some kl) : ∃ x, key = Value.int .i64 x := by
  obtain ⟨x, h, _⟩ := Maps.keyOf_int_inv Tryz.underlying3 h
  exact ⟨x, h⟩
set_option maxRecDepth 100000 in
set_option maxHeartbeats 2000000 in
theorem rising_any (b nr : Nat) (S : Int → Bool) (w : World) (hn : nr ≤ 100) (h : RegSet w b nr S) :
    Calls Tryz.prog 31 #[.map (some b)] w fun e w' => ∃ v, e = .returned v ∧ OwnInts w' w.heap.size v (listS nr S) ∧ Below w.heap.size w w' := by
  have hlt := h.lt
  obtain ⟨⟨D, hown, hD⟩, hS⟩ := h
  have HO := Lib.hid hown
  have HD := Lib.hid hD
  have HS := Lib.hid hS
  have hsz := regset_size hown hD hS
  clear hown hD hS
  go_enter Tryz.func31, Tryz.ntmps31
  go_wp2_with (at_range; refine wpList_range_own _ rfl _ 61 rfl 3 62 regKeyed Tryz.underlying61 _ b (Maps.size D) D rfl HO.out ?_; intro w1 hrg1 hg1 hs1)
  have HR1 : Hid (Ranging w1 w.heap.size b w.heap.size D [] (Maps.size D)) := Lib.hid (Ranging.start (Nat.le_refl _) hrg1)
  have HB1 : Hid (Below w.heap.size w w1) := Lib.hid (grown_below hg1 (Nat.le_refl _) (fun k e => by cases e))
  have hbr : b ≠ w.heap.size := by omega
  clear hrg1 hg1 hs1
  go_frame
  go_loopg [3] (Maps.size D) (fun gk v wr => ∃ L, Hid (Ranging wr w.heap.size b w.heap.size D L gk) ∧ Hid (OwnInts wr w.heap.size v L) ∧ Hid (Below w.heap.size w wr))
  case atStart => exact ⟨[], HR1, Lib.hid (OwnInts.nil _ _), HB1⟩
  case round =>
    obtain ⟨L, HR, HV, HB⟩ := hrel
    clear HR1 HB1
    obtain ⟨hge, left, hrg, hl1, hl2, hl3, hl4⟩ := HR.out
    obtain ⟨A, c, rfl⟩ := row_form HV.out
    have HL := Lib.hid (And.intro hl1 (And.intro hl2 (And.intro hl3 hl4)))
    have Hrg := Lib.hid hrg
    clear hl1 hl2 hl3 hl4 hrg
    go_wp2_with (at_next; refine wpList_next_ranges _ rfl _ rfl 3 regKeyed _ (Value.int .i64) (fun _ : Unit => .agg #[]) inv_key inv_unit b w.heap.size (Maps.size D) D left gk rfl Hrg.out ?_ ?_)
    · intro _ hl0
      have HE : Hid ((L.mergeSort fun x y => decide (x ≤ y)) = listS nr S) := Lib.hid (sorted_listS HL.out.2.1 (fun x => by
        rw [HL.out.2.2.2 x]
        constructor
        · rintro ⟨h1, h2, _⟩
          rw [HD.out x h1] at h2
          exact ⟨(HS.out x h2).1, (HS.out x h2).2, h2⟩
        · rintro ⟨h1, h2, h3⟩
          have hw := wf_reg hn ⟨h1, h2⟩
          exact ⟨hw, by rw [HD.out x hw]; exact h3, hl0 _⟩))
      have hlen : L.length ≤ 1000 := by have := HL.out.1; omega
      have HSo := Lib.hid (Sort_own w.heap.size _ L wr HV.out hlen)
      clear hlen
      go_wp2_with fail
      refine HSo.out.mono ?_
      rintro e w2 ⟨rfl, hv2, hb2⟩
      rw [HE.out] at hv2
      have HV2 := Lib.hid hv2
      have HB2 := Lib.hid (HB.out.trans hb2)
      clear hv2 hb2
      go_wp2_with fail
      go_ret
      exact ⟨_, rfl, HV2.out, HB2.out⟩
    · intro x c kl y w2 cnt2 hkey hlx hy hat hrg2 hlt2 hg2 hs2 hen
      obtain ⟨x', ex, rfl, hwx⟩ := Maps.keyOf_int_inv Tryz.underlying3 hkey
      cases ex
      have hown2 := HR.out.own HV.out
      have HR2 : Hid (Ranging w2 w.heap.size b w.heap.size D (L ++ [x]) cnt2) := Lib.hid (ranging_more hge HL.out.1 HL.out.2.1 HL.out.2.2.1 HL.out.2.2.2 hwx hlx hlt2 hrg2)
      have HV2 : Hid (OwnInts w2 w.heap.size (.slice A L.length c) L) := Lib.hid (World.ownsRow.kept HV.out hg2 (.inr hown2.2))
      have HB2 : Hid (Below w.heap.size w w2) := Lib.hid (HB.out.trans (grown_below hg2 HB.out.size (fun k e => by cases e; exact Nat.le_refl _)))
      have hz := HB2.out.size
      have hlen : L.length ≤ 100 := by have := HL.out.1; omega
      clear hkey hlx hy hat hrg2 hg2 hs2 hown2 hge
      go_wp2_with (at_builtin; refine app_one rfl _ _ 26 3 rfl (.int .i64 0) 1 8 Tryz.underlying26 infoInt rfl (by decide) (by decide) w.heap.size _ _ _ (by rfl) HV2.out _ [.int .i64 x] (by rfl) rfl (fun x hx => by simp at hx; subst hx; rfl) rfl (by omega) hz ?_; intro v4 w4 HA4)
      have hown2 := HR2.out.own HV2.out
      have HR4 : Hid (Ranging w4 w.heap.size b w.heap.size D (L ++ [x]) cnt2) := Lib.hid (HR2.out.kept HA4.out.2.2.1 (fun e => hown2.1 e.symm) (fun e => hown2.2 e.symm))
      have HV4 : Hid (OwnInts w4 w.heap.size v4 (L ++ [x])) := Lib.hid (by
        unfold OwnInts
        rw [List.length_append, List.map_append]
        exact HA4.out.own)
      have HB4 : Hid (Below w.heap.size w w4) := Lib.hid (HB2.out.trans HA4.out.below)
      go_roundg cnt2
      case measure => omega
      case rel => exact ⟨L ++ [x], HR4, HV4, HB4⟩
end Go.Proofs.YtiknhfbkphoceaaGreatDoor
