/-
  Several texts in one (WkD WkE WkG): what each proves stands at its theorems.
  Conditions: as the theorems say.
-/
import Derived.Test.YtkiaffaieniebaaDoorWkA
import Derived.Test.YtkiaffaieniebaaDoorMtC
namespace Go.Proofs.YtkiaffaieniebaaDoor
open Go.RowKit

theorem wordsG_len {g : Glob} (h0 : 0 ≤ g.size) (h : (g.init.length : Int) ≤ g.size) : (wordsG g).length = g.size.toNat := by
  unfold wordsG
  rw [List.length_append, List.length_replicate]
  omega
theorem wordsG_at {g : Glob} (h : (g.init.length : Int) ≤ g.size) {k : Nat} (hk : (k : Int) < g.size) : (wordsG g)[k]? = some (g.init.getD k 0) := by
  unfold wordsG
  rw [List.getD_eq_getElem?_getD]
  rcases Nat.lt_or_ge k g.init.length with hl | hl
  · rw [List.getElem?_append_left hl, List.getElem?_eq_getElem hl]
    rfl
  · rw [List.getElem?_append_right hl, List.getElem?_replicate, if_pos (by omega), List.getElem?_eq_none hl]
    rfl
set_option maxHeartbeats 2000000 in
theorem Memory_any (v : Value) (gs : List Glob) (w : World) (hv : GlobsAt w w.heap.size v gs) (hgood : (globF gs).1 = 0) :
    Calls Tryd.prog 39 #[v] w fun e w' => ∃ v', e = .returned v' ∧ w'.ownsRow w.heap.size 3 1 v' (memS gs).length (intV (memS gs)) ∧ Below w.heap.size w w' := by
  have hsm := memS_small hgood
  have HPE : Hid (∀ v' (w' : World), w'.ownsRow w.heap.size 3 1 v' (memS gs).length (intV (memS gs)) → Below w.heap.size w w' → ∃ v'', Ending.returned v' = .returned v'' ∧ w'.ownsRow w.heap.size 3 1 v'' (memS gs).length (intV (memS gs)) ∧ Below w.heap.size w w') := Lib.hid fun v w' h1 h2 => ⟨v, rfl, h1, h2⟩
  have HGd := Lib.hid (glob_good hgood).2
  obtain ⟨A, c, rfl, hl, hc63, hcell⟩ := hv
  have HC := Lib.hid hcell
  have HSm := Lib.hid hsm
  have HMs := Lib.hid (memS_snoc gs)
  have HTk : Hid (∀ k, (memS (gs.take k)).length ≤ 200) := Lib.hid fun k => by
    have h : (memS (gs.take k)).length ≤ (memS gs).length := by
      rw [show memS gs = memS (gs.take k) ++ memS (gs.drop k) by unfold memS; rw [← List.flatten_append, ← List.map_append, List.take_append_drop], List.length_append]
      omega
    omega
  obtain ⟨len, hlen⟩ : ∃ len, gs.length = len := ⟨_, rfl⟩
  have HL := Lib.hid hlen
  have HEnd : Hid (memS (gs.take len) = memS gs) := Lib.hid (by rw [← hlen, List.take_length])
  rw [hlen] at hl HC ⊢
  clear hcell hsm hlen hgood
  go_enter Tryd.func39, Tryd.ntmps39
  go_wp2_with fail
  go_loopw [3, 4] (fun v i wr => ∃ k : Nat, k ≤ len ∧ i = .int .i64 k ∧ Hid (Below w.heap.size w wr) ∧ Hid (wr.ownsRow w.heap.size 3 1 v (memS (gs.take k)).length (intV (memS (gs.take k))))) (fun _ i _ => len - (intOf i).toNat)
  case atStart => exact ⟨0, Nat.zero_le _, rfl, Lib.hid (Below.refl _ _), Lib.hid (World.ownsRow_nil _ _ _ _)⟩
  case round =>
    obtain ⟨k, hk, rfl, HB, HO⟩ := hrel
    by_cases hlt : k < len
    · obtain ⟨b, off, hA, hbw, hcc⟩ := HC.out (by omega)
      subst hA
      obtain ⟨⟨gn, gz, gi⟩, hg⟩ : ∃ x, gs[k]? = some x := ⟨gs[k]'(by rw [HL.out]; exact hlt), List.getElem?_eq_getElem _⟩
      obtain ⟨giv, _, q1, q2, q3⟩ := hcc k _ hg
      obtain ⟨g1, g2, g3, _⟩ := HGd.out k _ hg
      simp only at q1 q2 q3 g1 g2 g3
      obtain ⟨gsz, rfl⟩ := Int.eq_ofNat_of_zero_le (show 0 ≤ gz by omega)
      obtain ⟨Ai, ci, rfl, hi1, hi2, hi3⟩ := q3
      obtain ⟨il, hil⟩ : ∃ n, gi.length = n := ⟨_, rfl⟩
      rw [hil] at q2 hi1 hi3 g3
      have HI3 := Lib.hid hi3
      have HIl := Lib.hid hil
      have HQ := Lib.hid (And.intro q1 q2)
      have hms := HMs.out k _ hg
      have HMk := Lib.hid hms
      have HW : Hid (∀ j, j < gsz → (wordsG ⟨gn, (gsz : Int), gi⟩)[j]? = some (gi.getD j 0)) := Lib.hid fun j hj => wordsG_at (g := ⟨gn, (gsz : Int), gi⟩) (by simp only; rw [hil]; exact g3) (by simp only; omega)
      have HWl : Hid ((wordsG ⟨gn, (gsz : Int), gi⟩).length = gsz) := Lib.hid (by rw [wordsG_len (g := ⟨gn, (gsz : Int), gi⟩) (by simp only; omega) (by simp only; rw [hil]; exact g3)]; simp)
      generalize wordsG ⟨gn, (gsz : Int), gi⟩ = ws at *
      have HTl := Lib.hid (HTk.out k)
      clear q1 q2 hi3 hg hcc hms hil
      go_wp2_with fail
      obtain ⟨wo, hwo⟩ : ∃ wo : World, wo = wr := ⟨_, rfl⟩
      subst hwo
      go_loopw [3, 5] (fun v i wx => ∃ q : Nat, q ≤ gsz ∧ i = .int .i64 q ∧ Hid (Below w.heap.size w wx) ∧ Hid (wx.ownsRow w.heap.size 3 1 v ((memS (gs.take k)).length + q) (intV (memS (gs.take k) ++ ws.take q)))) (fun _ i _ => gsz - (intOf i).toNat)
      case atStart => exact ⟨0, Nat.zero_le _, rfl, HB, Lib.hid (by rw [List.take_zero, List.append_nil, Nat.add_zero]; exact HO.out)⟩
      case round =>
        obtain ⟨q, hq, rfl, HBx, HOx⟩ := hrel
        have d1 := (bcell HBx.out hbw).trans HQ.out.1
        have d2 := (bcell HBx.out hbw).trans HQ.out.2
        have hk0 : (0 : Int) ≤ (k : Int) := Int.natCast_nonneg _
        have hk1 : (k : Int) < (len : Int) := by omega
        by_cases hqs : q < gsz
        · have hws := HW.out q hqs
          have hsn : ws.take (q + 1) = ws.take q ++ [gi.getD q 0] := by rw [List.take_add_one, hws]; rfl
          have HSn := Lib.hid hsn
          have htl := HTl.out
          have hzb : w.heap.size ≤ wr.heap.size := HBx.out.size
          clear hws hsn
          by_cases hqi : q < il
          · obtain ⟨bi, oi, hAi, hbi, hci⟩ := HI3.out (by omega)
            subst hAi
            obtain ⟨x, hx⟩ : ∃ x, gi[q]? = some x := ⟨gi[q]'(by rw [HIl.out]; exact hqi), List.getElem?_eq_getElem _⟩
            have dx := (bcell HBx.out hbi).trans (hci q x hx)
            have hgx : gi.getD q 0 = x := by rw [List.getD_eq_getElem?_getD, hx]; rfl
            rw [hgx] at HSn
            have hq0 : (0 : Int) ≤ (q : Int) := Int.natCast_nonneg _
            have hq1 : (q : Int) < (il : Int) := by omega
            clear hci hx hgx
            go_wp2_with (at_builtin; refine app_one rfl _ _ 26 3 rfl (.int .i64 0) 1 8 Tryd.underlying26 infoInt rfl (by decide) (by decide) w.heap.size u3 _ _ (by rfl) HOx.out _ [.int .i64 x] (by rfl) rfl (fun x hx => by simp at hx; subst hx; rfl) rfl (by omega) hzb ?_; intro v4 w4 HA4)
            go_round
            case rel =>
              refine ⟨q + 1, by omega, by go_num, Lib.hid (HBx.out.trans HA4.out.below), Lib.hid ?_⟩
              rw [HSn.out, ← List.append_assoc, ← intV_app]
              exact HA4.out.own
            case measure => simp [intOf]; omega
          · have hgx : gi.getD q 0 = 0 := by rw [List.getD_eq_getElem?_getD, List.getElem?_eq_none (by rw [HIl.out]; omega)]; rfl
            rw [hgx] at HSn
            have hq1 : ¬ ((q : Int) < (il : Int)) := by omega
            clear hgx
            go_wp2_with (at_builtin; refine app_one rfl _ _ 26 3 rfl (.int .i64 0) 1 8 Tryd.underlying26 infoInt rfl (by decide) (by decide) w.heap.size u3 _ _ (by rfl) HOx.out _ [.int .i64 0] (by rfl) rfl (fun x hx => by simp at hx; subst hx; rfl) rfl (by omega) hzb ?_; intro v4 w4 HA4)
            go_round
            case rel =>
              refine ⟨q + 1, by omega, by go_num, Lib.hid (HBx.out.trans HA4.out.below), Lib.hid ?_⟩
              rw [HSn.out, ← List.append_assoc, ← intV_app]
              exact HA4.out.own
            case measure => simp [intOf]; omega
        · obtain rfl : gsz = q := by omega
          go_wp2_with fail
          go_round
          case rel =>
            refine ⟨k + 1, by omega, by go_num, HBx, Lib.hid ?_⟩
            rw [HMk.out, List.length_append, HWl.out]
            have := HOx.out
            rw [show ws.take gsz = ws from List.take_of_length_le (by rw [HWl.out]; exact Nat.le_refl _)] at this
            exact this
          case measure => simp [intOf]; omega
    · obtain rfl : len = k := by omega
      go_wp2_with fail
      go_ret
      exact HPE.out _ _ (by rw [← HEnd.out]; exact HO.out) HB.out
end Go.Proofs.YtkiaffaieniebaaDoor
namespace Go.Proofs.YtkiaffaieniebaaDoor
open Go.RowKit

/-- v is a row of n rows of numbers, each in a block of its own. -/
structure MetG (W : World) (base : Nat) (v : Value) (R : Nat → Value) (F : Nat → List Int) (n : Nat) : Prop where
  row : W.ownsRow base 26 1 v n ((List.range n).map R)
  own : ∀ q, q < n → OwnInts W base (R q) (F q)
  ap : ∀ p q, p < n → q < n → p ≠ q → ∀ b, (R p).ownBlock = some b → (R q).ownBlock ≠ some b
section
variable {W W' : World} {base n : Nat} {v : Value} {R : Nat → Value} {F : Nat → List Int}
theorem MetG.nil (W : World) (base : Nat) (R : Nat → Value) (F : Nat → List Int) : MetG W base (.slice none 0 0) R F 0 := ⟨World.ownsRow_nil _ _ _ _, fun _ h => absurd h (Nat.not_lt_zero _), fun _ _ h => absurd h (Nat.not_lt_zero _)⟩
theorem MetG.below (h : MetG W base v R F n) (hb : Below W.heap.size W W') : MetG W' base v R F n :=
  ⟨row_lt h.row hb, fun q hq => row_lt (h.own q hq) hb, h.ap⟩
theorem MetG.congr (h : MetG W base v R F n) {F' : Nat → List Int} (hF : ∀ q, q < n → F q = F' q) : MetG W base v R F' n :=
  ⟨h.row, fun q hq => by rw [← hF q hq]; exact h.own q hq, h.ap⟩
/-- What lies below a mark stands when all below the mark stands. -/
theorem MetG.under (h : MetG W base v R F n) {B : Nat} (hb : Below B W W') (hv : ∀ b, v.ownBlock = some b → b < B) (hR : ∀ q, q < n → ∀ b, (R q).ownBlock = some b → b < B) : MetG W' base v R F n := by
  have key : ∀ {e : TypeId} {m : Nat} {u : Value} {xs : List Value}, (∀ b, u.ownBlock = some b → b < B) → W.ownsRow base e 1 u m xs → W'.ownsRow base e 1 u m xs := fun {e m u xs} hu ho => by
    obtain ⟨h1, h2⟩ := ho
    refine ⟨h1, ?_⟩
    rcases h2 with h2 | ⟨g, cap, cur, e1, hg, hh, h3⟩
    · exact .inl h2
    · exact .inr ⟨g, cap, cur, e1, hg, (hb.block g (hu g (by rw [e1]; rfl))).trans hh, h3⟩
  exact ⟨key hv h.row, fun q hq => key (hR q hq) (h.own q hq), h.ap⟩
theorem MetG.far (h : MetG W base v R F n) {g o : Nat} {t : TypeId} {cs : Array Value} (hb : Blk W g t cs) (h1 : 26 ≠ t) (h2 : 3 ≠ t) (u : Value) : MetG (W.setCell ⟨g, o, none⟩ u) base v R F n :=
  ⟨row_far h.row hb h1 u, fun q hq => row_far (h.own q hq) hb h2 u, h.ap⟩
/-- One row more. -/
theorem MetG.snoc (h : MetG W base v R F n) {r v' : Value} {xs : List Int} {H : Nat} (hr : OwnInts W base r xs) (hfr : ∀ q, q < n → ∀ b, r.ownBlock = some b → (R q).ownBlock ≠ some b)
    (hap : Appended W base 26 1 v (n + 1) ((List.range n).map R ++ [r]) H v' W') : MetG W' base v' (fun q => if q = n then r else R q) (fun q => if q = n then xs else F q) (n + 1) := by
  have keep : ∀ {u : Value} {ys : List Int}, OwnInts W base u ys → OwnInts W' base u ys := fun ho => hap.row ho (own_apart ho h.row (by decide))
  refine ⟨?_, fun q hq => ?_, fun p q hp hq hne b hb => ?_⟩
  · rw [List.range_succ, List.map_append]
    have e : (List.range n).map (fun q => if q = n then r else R q) = (List.range n).map R := List.map_congr_left fun q hq => if_neg (Nat.ne_of_lt (List.mem_range.1 hq))
    rw [e]
    show W'.ownsRow base _ 1 v' (n + 1) (_ ++ [if n = n then r else R n])
    rw [if_pos rfl]
    exact hap.own
  · by_cases e : q = n
    · simp only [if_pos e]; exact keep hr
    · simp only [if_neg e]; exact keep (h.own q (by omega))
  · by_cases ep : p = n
    · have eq : q ≠ n := fun e => hne (ep.trans e.symm)
      simp only [if_pos ep] at hb
      simp only [if_neg eq]
      exact hfr q (by omega) b hb
    · simp only [if_neg ep] at hb
      by_cases eq : q = n
      · simp only [if_pos eq]
        intro hrb
        exact hfr p (by omega) b hrb hb
      · simp only [if_neg eq]
        exact h.ap p q (by omega) (by omega) hne b hb
/-- A store into row r. -/
theorem MetG.set (h : MetG W base v R F n) {r b m c : Nat} (hr : r < n) (hR : R r = .slice (some ⟨b, 0, none⟩) m c) (i : Nat) (x : Int) :
    MetG (W.setCell ⟨b, i, none⟩ (.int .i64 x)) base v R (fun q => if q = r then (F r).set i x else F q) n := by
  have h0 := h.own r hr
  have hb : ∃ cs, Blk W b 3 cs := by
    rcases h0.2 with ⟨e, _⟩ | ⟨g, cap, cur, e, _, hh, _⟩
    · rw [hR] at e; cases e
    · rw [hR] at e; cases e; exact ⟨cur, hh⟩
  obtain ⟨cs, hbk⟩ := hb
  refine ⟨row_far h.row hbk (by decide) _, fun q hq => ?_, h.ap⟩
  by_cases e : q = r
  · subst e
    rw [if_pos rfl]
    have hm : m = (F q).length := by
      obtain ⟨A, c', e⟩ := row_form h0
      rw [hR] at e; cases e; rfl
    subst hm
    unfold OwnInts at h0 ⊢
    rw [List.length_set, List.map_set]
    rw [hR] at h0 ⊢
    exact (World.ownsRow.stored h0 i _).1
  · rw [if_neg e]
    refine ownsRow_setCell_other (h.own q hq) ?_ _
    exact h.ap r q hr hq (Ne.symm e) b (by rw [hR]; rfl)
theorem MetG.rows (h : MetG W base v R F n) : RowsOwn W base v ((List.range n).map F) := by
  refine ⟨(List.range n).map R, by simp, by simpa using h.row, fun i r xs hr hx => ?_⟩
  rw [List.getElem?_map] at hr hx
  rcases Nat.lt_or_ge i n with hi | hi
  · rw [List.getElem?_range hi] at hr hx
    cases hr
    cases hx
    exact h.own i hi
  · rw [List.getElem?_eq_none (by simpa using hi)] at hr
    cases hr
/-- A store below the World's rows. -/
theorem WIs.under {g : Nat} {inp : List Int} {s : Mch} (h : WIs W g base inp s) (hg : base ≤ g) {b o : Nat} (hb : b < base) (u : Value) : WIs (W.setCell ⟨b, o, none⟩ u) g base inp s := by
  obtain ⟨R, rd, h1, h2⟩ := h
  exact ⟨R, rd, ⟨h1.blk.far (p := ⟨b, o, none⟩) (by show g ≠ b; omega) u, fun i hi => ownsRow_setCell_below (a := ⟨b, o, none⟩) (h1.rows i hi) hb u, h1.apart⟩, h2⟩
theorem CodesOwn.far {css : List (List Mac)} (h : CodesOwn W base v css) {g o : Nat} {t : TypeId} {cs : Array Value} (hb : Blk W g t cs) (h1 : 25 ≠ t) (h2 : 24 ≠ t) (u : Value) : CodesOwn (W.setCell ⟨g, o, none⟩ u) base v css := by
  obtain ⟨rs, q1, q2, q3⟩ := h
  exact ⟨rs, q1, row_far q2 hb h1 u, fun i r xs hr hx => row_far (q3 i r xs hr hx) hb h2 u⟩
end
/-- Beside an append to a row of another element type. -/
theorem MetG.beside {W W' : World} {base n : Nat} {v : Value} {R : Nat → Value} {F : Nat → List Int} (h : MetG W base v R F n) {e : TypeId} {size n0 n1 H : Nat} {u u' : Value} {xs0 xs1 : List Value} {b0 b1 : Nat} (ho : W.ownsRow b0 e size u n0 xs0)
    (hap : Appended W b1 e size u n1 xs1 H u' W') (h1 : 26 ≠ e) (h2 : 3 ≠ e) : MetG W' base v R F n :=
  ⟨hap.row h.row (own_apart h.row ho h1), fun q hq => hap.row (h.own q hq) (own_apart (h.own q hq) ho h2), h.ap⟩
theorem CodesOwn.beside {W W' : World} {base : Nat} {v : Value} {css : List (List Mac)} (h : CodesOwn W base v css) {e : TypeId} {size n0 n1 H : Nat} {u u' : Value} {xs0 xs1 : List Value} {b0 b1 : Nat} (ho : W.ownsRow b0 e size u n0 xs0)
    (hap : Appended W b1 e size u n1 xs1 H u' W') (h1 : 25 ≠ e) (h2 : 24 ≠ e) : CodesOwn W' base v css := by
  obtain ⟨rs, q1, q2, q3⟩ := h
  exact ⟨rs, q1, hap.row q2 (own_apart q2 ho h1), fun i r xs hr hx => hap.row (q3 i r xs hr hx) (own_apart (q3 i r xs hr hx) ho h2)⟩
/-- A new row of zeros. -/
theorem own_zeros (w : World) {base m : Nat} (hb : base ≤ w.heap.size) (hm : m ≤ 5000) : OwnInts (w.alloc (.cells (madeCells #[.int .i64 0] m) 3)) base (.slice (some ⟨w.heap.size, 0, none⟩) m m) (List.replicate m 0) := by
  have hl : (madeCells #[(.int .i64 0 : Value)] m).toList = List.replicate m (.int .i64 0) := toList_madeCells_one _ _
  have hs : (madeCells #[(.int .i64 0 : Value)] m).size = m := by rw [← Array.length_toList, hl, List.length_replicate]
  unfold OwnInts
  rw [List.length_replicate, List.map_replicate]
  refine ⟨by simp, .inr ⟨w.heap.size, m, _, rfl, hb, heap_alloc_new w _, Nat.le_refl _, by unfold maxLen; omega, by omega, ?_⟩⟩
  rw [hl, List.take_of_length_le (by simp)]
/-- The five rows of a new World, and where the statement makes them. -/
def newX (mem : List Int) : Nat → List Int
  | 0 => List.replicate 16 0
  | 3 => mem
  | 4 => List.replicate 120 0
  | _ => [0]
def isNew (i : Nat) : Prop := i = 0 ∨ i = 3 ∨ i = 4 ∨ i = 5 ∨ i = 6
/-- What has been done of 'w := &World{..}', and what the world holds of it. -/
def NewW (pv : Nat → Option Value) (base : Nat) (w0 : World) (mem : List Int) (σ : Nat → Option Value) (w : World) : Prop :=
  Below base w0 w ∧ base ≤ w.heap.size ∧ (∀ j v, pv j = some v → ∀ u, σ j = some u → u = v) ∧
  (∀ i, isNew i → ∀ u, σ i = some u → w.ownsRow base 3 1 u (newX mem i).length (intV (newX mem i))) ∧
  (∀ i j, isNew i → isNew j → i ≠ j → ∀ u u', σ i = some u → σ j = some u' → ∀ b, u.ownBlock = some b → u'.ownBlock ≠ some b) ∧
  (∀ u, σ 7 = some u → ∃ u0 u3 u4 u5 u6, σ 0 = some u0 ∧ σ 3 = some u3 ∧ σ 4 = some u4 ∧ σ 5 = some u5 ∧ σ 6 = some u6 ∧
    u = .agg #[u0, u3, u4, u5, u6, .int .i64 0, .int .i64 0, .int .i64 0, .slice none 0 0, .int .i64 0, .bool false]) ∧
  (∀ u, σ 8 = some u → ∃ g u0 u3 u4 u5 u6, σ 0 = some u0 ∧ σ 3 = some u3 ∧ σ 4 = some u4 ∧ σ 5 = some u5 ∧ σ 6 = some u6 ∧
    u = ptrV g ∧ base ≤ g ∧ Blk w g 77 #[u0, u3, u4, u5, u6, .int .i64 0, .int .i64 0, .int .i64 0, .slice none 0 0, .int .i64 0, .bool false]) ∧
  (∀ u, σ 9 = some u → σ 8 = some u)
section
variable {pv σ : Nat → Option Value} {base : Nat} {w0 w w' : World} {mem : List Int}
theorem NewW.start (hb : Below base w0 w) (hz : base ≤ w.heap.size) : NewW pv base w0 mem (fun _ => none) w :=
  ⟨hb, hz, by simp, by simp, by simp, by simp, by simp, by simp⟩
theorem NewW.low (h : NewW pv base w0 mem σ w) : Below base w0 w ∧ base ≤ w.heap.size := ⟨h.1, h.2.1⟩
theorem NewW.val (h : NewW pv base w0 mem σ w) {j : Nat} {u v : Value} (hu : σ j = some u) (hv : pv j = some v) : u = v := h.2.2.1 j v hv u hu
theorem NewW.known (h : NewW pv base w0 mem σ w) {k : Nat} {v : Value} (hk : pv k = some v) (hk2 : k = 1 ∨ k = 2) : NewW pv base w0 mem (upd σ k v) w := by
  obtain ⟨h1, hz, h2, h3, h4, h5, h6, h7⟩ := h
  have ne : ∀ j, j ≠ 1 → j ≠ 2 → upd σ k v j = σ j := fun j a b => upd_ne (by omega)
  refine ⟨h1, hz, fun j v' hj u hu => ?_, fun i hi u hu => ?_, fun i j hi hj hne u u' hu hu' => ?_, ?_, ?_, ?_⟩
  · by_cases e : j = k
    · subst e
      rw [upd_same] at hu
      rw [hk] at hj
      cases hj; cases hu; rfl
    · rw [upd_ne e] at hu
      exact h2 j v' hj u hu
  · rw [ne i (by unfold isNew at hi; omega) (by unfold isNew at hi; omega)] at hu
    exact h3 i hi u hu
  · rw [ne i (by unfold isNew at hi; omega) (by unfold isNew at hi; omega)] at hu
    rw [ne j (by unfold isNew at hj; omega) (by unfold isNew at hj; omega)] at hu'
    exact h4 i j hi hj hne u u' hu hu'
  · rw [ne 7 (by omega) (by omega), ne 0 (by omega) (by omega), ne 3 (by omega) (by omega), ne 4 (by omega) (by omega), ne 5 (by omega) (by omega), ne 6 (by omega) (by omega)]
    exact h5
  · rw [ne 8 (by omega) (by omega), ne 0 (by omega) (by omega), ne 3 (by omega) (by omega), ne 4 (by omega) (by omega), ne 5 (by omega) (by omega), ne 6 (by omega) (by omega)]
    exact h6
  · rw [ne 9 (by omega) (by omega), ne 8 (by omega) (by omega)]
    exact h7
/-- A row is made. -/
theorem NewW.make (h : NewW pv base w0 mem σ w) {k : Nat} (hk : isNew k) (hpv : ∀ i, isNew i → pv i = none) (n7 : σ 7 = none) (n8 : σ 8 = none) (n9 : σ 9 = none) {u : Value} (hb : Below w.heap.size w w')
    (hu : w'.ownsRow w.heap.size 3 1 u (newX mem k).length (intV (newX mem k))) : NewW pv base w0 mem (upd σ k u) w' := by
  obtain ⟨h1, hz, h2, h3, h4, h5, h6, h7⟩ := h
  have k7 : upd σ k u 7 = none := by rw [upd_ne (by unfold isNew at hk; omega)]; exact n7
  have k8 : upd σ k u 8 = none := by rw [upd_ne (by unfold isNew at hk; omega)]; exact n8
  have k9 : upd σ k u 9 = none := by rw [upd_ne (by unfold isNew at hk; omega)]; exact n9
  have fresh : ∀ i, isNew i → i ≠ k → ∀ x, σ i = some x → ∀ b, x.ownBlock = some b → b < w.heap.size := fun i hi _ x hx b hbk => (World.ownsRow.lt (h3 i hi x hx) b hbk).2
  refine ⟨h1.trans (hb.mono hz), Nat.le_trans hz hb.size, fun j v hj x hx => ?_, fun i hi x hx => ?_, fun i j hi hj hne x x' hx hx' b hbk => ?_, fun x hx => ?_, fun x hx => ?_, fun x hx => ?_⟩
  · rw [upd_ne (fun e => by subst e; rw [hpv _ hk] at hj; cases hj)] at hx
    exact h2 j v hj x hx
  · by_cases e : i = k
    · subst e
      rw [upd_same] at hx
      cases hx
      exact row_more hu hz
    · rw [upd_ne e] at hx
      exact row_lt (h3 i hi x hx) hb
  · by_cases ei : i = k
    · have ej : j ≠ k := fun e => hne (ei.trans e.symm)
      subst ei
      rw [upd_same] at hx
      rw [upd_ne ej] at hx'
      cases hx
      intro hb'
      have a := (World.ownsRow.lt hu b hbk).1
      have c := fresh j hj ej x' hx' b hb'
      omega
    · rw [upd_ne ei] at hx
      by_cases ej : j = k
      · subst ej
        rw [upd_same] at hx'
        cases hx'
        intro hb'
        have a := (World.ownsRow.lt hu b hb').1
        have c := fresh i hi ei x hx b hbk
        omega
      · rw [upd_ne ej] at hx'
        exact h4 i j hi hj hne x x' hx hx' b hbk
  · rw [k7] at hx; cases hx
  · rw [k8] at hx; cases hx
  · rw [k9] at hx; cases hx
theorem NewW.build (h : NewW pv base w0 mem σ w) (hp7 : pv 7 = none) (n8 : σ 8 = none) (n9 : σ 9 = none) {u0 u3 u4 u5 u6 : Value} (e0 : σ 0 = some u0) (e3 : σ 3 = some u3) (e4 : σ 4 = some u4) (e5 : σ 5 = some u5) (e6 : σ 6 = some u6) :
    NewW pv base w0 mem (upd σ 7 (.agg #[u0, u3, u4, u5, u6, .int .i64 0, .int .i64 0, .int .i64 0, .slice none 0 0, .int .i64 0, .bool false])) w := by
  obtain ⟨h1, hz, h2, h3, h4, h5, h6, h7⟩ := h
  refine ⟨h1, hz, fun j v hj x hx => ?_, fun i hi x hx => ?_, fun i j hi hj hne x x' hx hx' => ?_, fun x hx => ?_, fun x hx => ?_, fun x hx => ?_⟩
  · rw [upd_ne (fun e => by subst e; rw [hp7] at hj; cases hj)] at hx
    exact h2 j v hj x hx
  · rw [upd_ne (by unfold isNew at hi; omega)] at hx
    exact h3 i hi x hx
  · rw [upd_ne (by unfold isNew at hi; omega)] at hx
    rw [upd_ne (by unfold isNew at hj; omega)] at hx'
    exact h4 i j hi hj hne x x' hx hx'
  · rw [upd_same] at hx
    cases hx
    exact ⟨u0, u3, u4, u5, u6, e0, e3, e4, e5, e6, rfl⟩
  · rw [upd_ne (by decide), n8] at hx; cases hx
  · rw [upd_ne (by decide), n9] at hx; cases hx
theorem NewW.forms (h : NewW pv base w0 mem σ w) {i : Nat} (hi : isNew i) {u : Value} (hu : σ i = some u) : ∃ A c, u = .slice A (newX mem i).length c := row_form (h.2.2.2.1 i hi u hu)
theorem NewW.isBuilt (h : NewW pv base w0 mem σ w) {u : Value} (hu : σ 7 = some u) : ∃ u0 u3 u4 u5 u6, σ 0 = some u0 ∧ σ 3 = some u3 ∧ σ 4 = some u4 ∧ σ 5 = some u5 ∧ σ 6 = some u6 ∧
    u = .agg #[u0, u3, u4, u5, u6, .int .i64 0, .int .i64 0, .int .i64 0, .slice none 0 0, .int .i64 0, .bool false] := h.2.2.2.2.2.1 u hu
theorem NewW.box (h : NewW pv base w0 mem σ w) (hp8 : pv 8 = none) (n9 : σ 9 = none) {u0 u3 u4 u5 u6 : Value} (e0 : σ 0 = some u0) (e3 : σ 3 = some u3) (e4 : σ 4 = some u4) (e5 : σ 5 = some u5) (e6 : σ 6 = some u6) :
    NewW pv base w0 mem (upd σ 8 (ptrV w.heap.size)) (w.alloc (.cells #[u0, u3, u4, u5, u6, .int .i64 0, .int .i64 0, .int .i64 0, .slice none 0 0, .int .i64 0, .bool false] 77)) := by
  obtain ⟨h1, hz, h2, h3, h4, h5, h6, h7⟩ := h
  have hb : Below w.heap.size w (w.alloc (.cells #[u0, u3, u4, u5, u6, .int .i64 0, .int .i64 0, .int .i64 0, .slice none 0 0, .int .i64 0, .bool false] 77)) := (Below.refl _ _).alloc (Nat.le_refl _) _
  refine ⟨h1.trans (hb.mono hz), Nat.le_trans hz hb.size, fun j v hj x hx => ?_, fun i hi x hx => ?_, fun i j hi hj hne x x' hx hx' => ?_, fun x hx => ?_, fun x hx => ?_, fun x hx => ?_⟩
  · rw [upd_ne (fun e => by subst e; rw [hp8] at hj; cases hj)] at hx
    exact h2 j v hj x hx
  · rw [upd_ne (by unfold isNew at hi; omega)] at hx
    exact row_lt (h3 i hi x hx) hb
  · rw [upd_ne (by unfold isNew at hi; omega)] at hx
    rw [upd_ne (by unfold isNew at hj; omega)] at hx'
    exact h4 i j hi hj hne x x' hx hx'
  · rw [upd_ne (by decide)] at hx
    exact h5 x hx
  · rw [upd_same] at hx
    cases hx
    exact ⟨w.heap.size, u0, u3, u4, u5, u6, e0, e3, e4, e5, e6, rfl, hz, Blk.new _ _ _⟩
  · rw [upd_ne (by decide), n9] at hx; cases hx
theorem NewW.keep (h : NewW pv base w0 mem σ w) (hp9 : pv 9 = none) {u : Value} (hu : σ 8 = some u) : NewW pv base w0 mem (upd σ 9 u) w := by
  obtain ⟨h1, hz, h2, h3, h4, h5, h6, h7⟩ := h
  refine ⟨h1, hz, fun j v hj x hx => ?_, fun i hi x hx => ?_, fun i j hi hj hne x x' hx hx' => ?_, h5, h6, fun x hx => ?_⟩
  · rw [upd_ne (fun e => by subst e; rw [hp9] at hj; cases hj)] at hx
    exact h2 j v hj x hx
  · rw [upd_ne (by unfold isNew at hi; omega)] at hx
    exact h3 i hi x hx
  · rw [upd_ne (by unfold isNew at hi; omega)] at hx
    rw [upd_ne (by unfold isNew at hj; omega)] at hx'
    exact h4 i j hi hj hne x x' hx hx'
  · rw [upd_same] at hx
    cases hx
    rw [upd_ne (by decide)]
    exact hu
/-- The World stands. -/
theorem NewW.done (h : NewW pv base w0 mem σ w) {u : Value} (hu : σ 9 = some u) (inp : List Int) : ∃ g, u = ptrV g ∧ base ≤ g ∧ WIs w g base inp (startS mem inp) ∧ Below base w0 w := by
  obtain ⟨h1, hz, h2, h3, h4, h5, h6, h7⟩ := h
  obtain ⟨g, u0, u3, u4, u5, u6, e0, e3, e4, e5, e6, rfl, hg, hk⟩ := h6 u (h7 u hu)
  refine ⟨g, rfl, hg, ⟨six u0 u3 u4 u5 u6 (.slice none 0 0), 0, ⟨hk, fun i hi => ?_, fun i j hi hj hne b hb => ?_⟩, Nat.zero_le _, rfl⟩, h1⟩
  · match i, hi with
    | 0, _ => exact h3 0 (.inl rfl) u0 e0
    | 1, _ => exact h3 3 (.inr (.inl rfl)) u3 e3
    | 2, _ => exact h3 4 (.inr (.inr (.inl rfl))) u4 e4
    | 3, _ => exact h3 5 (.inr (.inr (.inr (.inl rfl)))) u5 e5
    | 4, _ => exact h3 6 (.inr (.inr (.inr (.inr rfl)))) u6 e6
    | 5, _ => exact World.ownsRow_nil _ _ _ _
    | i + 6, h => omega
  · have key : ∀ k, k < 5 → ∃ m, isNew m ∧ σ m = some (six u0 u3 u4 u5 u6 (.slice none 0 0) k) ∧ m = (if k = 0 then 0 else k + 2) := fun k hk => by
      match k, hk with
      | 0, _ => exact ⟨0, .inl rfl, e0, rfl⟩
      | 1, _ => exact ⟨3, .inr (.inl rfl), e3, rfl⟩
      | 2, _ => exact ⟨4, .inr (.inr (.inl rfl)), e4, rfl⟩
      | 3, _ => exact ⟨5, .inr (.inr (.inr (.inl rfl))), e5, rfl⟩
      | 4, _ => exact ⟨6, .inr (.inr (.inr (.inr rfl))), e6, rfl⟩
      | k + 5, h => omega
    by_cases i5 : i = 5
    · subst i5; simp [six, Value.ownBlock] at hb
    · by_cases j5 : j = 5
      · subst j5; simp [six, Value.ownBlock]
      · obtain ⟨m, hm, hmu, em⟩ := key i (by omega)
        obtain ⟨m', hm', hmu', em'⟩ := key j (by omega)
        refine h4 m m' hm hm' ?_ _ _ hmu hmu' b hb
        rw [em, em']
        split <;> split <;> omega
end
end Go.Proofs.YtkiaffaieniebaaDoor
namespace Go.Proofs.YtkiaffaieniebaaDoor
open Go.RowKit

theorem own_under {W W' : World} {base B size m : Nat} {e : TypeId} {u : Value} {xs : List Value} (h : W.ownsRow base e size u m xs) (hb : Below B W W') (hu : ∀ b, u.ownBlock = some b → b < B) : W'.ownsRow base e size u m xs := by
  obtain ⟨h1, h2⟩ := h
  refine ⟨h1, ?_⟩
  rcases h2 with h2 | ⟨g, cap, cur, e1, hg, hh, h3⟩
  · exact .inl h2
  · exact .inr ⟨g, cap, cur, e1, hg, (hb.block g (hu g (by rw [e1]; rfl))).trans hh, h3⟩
structure Low (W : World) (h4 bs : Nat) (cv mv : Value) (rs : List Value) (R : Nat → Value) (css : List (List Mac)) (F : Nat → List Int) : Prop where
  len : rs.length = css.length
  crow : W.ownsRow h4 25 1 cv rs.length rs
  cown : ∀ (i : Nat) (r : Value) (xs : List Mac), rs[i]? = some r → css[i]? = some xs → OwnMacs W h4 r xs
  met : MetG W h4 mv R F css.length
  clo : ∀ b, cv.ownBlock = some b → b < bs
  rlo : ∀ (i : Nat) (r : Value), rs[i]? = some r → ∀ b, r.ownBlock = some b → b < bs
  mlo : ∀ b, mv.ownBlock = some b → b < bs
  Rlo : ∀ q, q < css.length → ∀ b, (R q).ownBlock = some b → b < bs
section
variable {W W' : World} {h4 bs : Nat} {cv mv : Value} {rs : List Value} {R : Nat → Value} {css : List (List Mac)} {F : Nat → List Int}
theorem low_start (hc : CodesOwn W h4 cv css) (hm : MetG W h4 mv R F css.length) : ∃ rs, Low W h4 W.heap.size cv mv rs R css F := by
  obtain ⟨rs, h1, h2, h3⟩ := hc
  refine ⟨rs, h1, h2, h3, hm, fun b hb => (World.ownsRow.lt h2 b hb).2, fun i r hr b hb => ?_, fun b hb => (World.ownsRow.lt hm.row b hb).2, fun q hq b hb => (World.ownsRow.lt (hm.own q hq) b hb).2⟩
  have hi : i < css.length := by rw [← h1]; exact (List.getElem?_eq_some_iff.1 hr).1
  exact (World.ownsRow.lt (h3 i r _ hr (List.getElem?_eq_getElem hi)) b hb).2
theorem Low.under (h : Low W h4 bs cv mv rs R css F) (hb : Below bs W W') : Low W' h4 bs cv mv rs R css F :=
  ⟨h.len, own_under h.crow hb h.clo, fun i r xs hr hx => own_under (h.cown i r xs hr hx) hb (h.rlo i r hr), h.met.under hb h.mlo h.Rlo, h.clo, h.rlo, h.mlo, h.Rlo⟩
theorem Low.congr (h : Low W h4 bs cv mv rs R css F) {F' : Nat → List Int} (hF : ∀ q, q < css.length → F q = F' q) : Low W h4 bs cv mv rs R css F' :=
  ⟨h.len, h.crow, h.cown, h.met.congr hF, h.clo, h.rlo, h.mlo, h.Rlo⟩
/-- Where the codes lie. -/
theorem Low.code (h : Low W h4 bs cv mv rs R css F) {r : Nat} {l : List Mac} (hr : css[r]? = some l) : ∃ b c u, cv = .slice (some ⟨b, 0, none⟩) css.length c ∧ W.cell? ⟨b, r, none⟩ = some u ∧ MacsAt W W.heap.size u l := by
  have hl := (List.getElem?_eq_some_iff.1 hr).1
  obtain ⟨u, hu⟩ : ∃ u, rs[r]? = some u := ⟨_, List.getElem?_eq_getElem (by rw [h.len]; exact hl)⟩
  have h0 := h.crow
  rcases h0.2 with ⟨_, hz⟩ | ⟨b, c, _, e, _⟩
  · rw [h.len] at hz; omega
  · rw [h.len] at e
    refine ⟨b, c, u, e, ?_, (h.cown r u l hu hr).macs⟩
    have := World.ownsRow.cells h0 (g := b) (by rw [e]; rfl) r u hu
    rwa [show (⟨b, 0, none⟩ : Addr).add r = ⟨b, r, none⟩ by unfold Addr.add; split <;> simp_all] at this
/-- Where the counts lie. -/
theorem Low.cnt (h : Low W h4 bs cv mv rs R css F) {r pc : Nat} {l : List Mac} {x : Int} (hr : css[r]? = some l) (hx : (F r)[pc]? = some x) : ∃ b c b' c', mv = .slice (some ⟨b, 0, none⟩) css.length c ∧ W.cell? ⟨b, r, none⟩ = some (R r) ∧
    R r = .slice (some ⟨b', 0, none⟩) (F r).length c' ∧ W.cell? ⟨b', pc, none⟩ = some (.int .i64 x) ∧ W.frozen? ⟨b', pc, none⟩ = false ∧ h4 ≤ b' ∧ b' < bs := by
  have hl := (List.getElem?_eq_some_iff.1 hr).1
  have hp := (List.getElem?_eq_some_iff.1 hx).1
  have h0 := h.met.row
  have h1 := h.met.own r hl
  rcases h0.2 with ⟨_, hz⟩ | ⟨b, c, _, e, _⟩
  · omega
  rcases h1.2 with ⟨_, hz⟩ | ⟨b', c', cur, e', hb4, hh, _⟩
  · omega
  refine ⟨b, c, b', c', e, ?_, e', ?_, Blk.frozen (t := 3) (cs := cur) hh pc, hb4, h.Rlo r hl b' (by rw [e']; rfl)⟩
  · have := World.ownsRow.cells h0 (g := b) (by rw [e]; rfl) r (R r) (by rw [List.getElem?_map, List.getElem?_range hl]; rfl)
    rwa [show (⟨b, 0, none⟩ : Addr).add r = ⟨b, r, none⟩ by unfold Addr.add; split <;> simp_all] at this
  · have := World.ownsRow.cells h1 (g := b') (by rw [e']; rfl) pc (.int .i64 x) (by rw [List.getElem?_map, hx]; rfl)
    rwa [show (⟨b', 0, none⟩ : Addr).add pc = ⟨b', pc, none⟩ by unfold Addr.add; split <;> simp_all] at this
theorem Low.inc (h : Low W h4 bs cv mv rs R css F) {r : Nat} (hr : r < css.length) {b m c : Nat} (hR : R r = .slice (some ⟨b, 0, none⟩) m c) (i : Nat) (x : Int) :
    Low (W.setCell ⟨b, i, none⟩ (.int .i64 x)) h4 bs cv mv rs R css (fun q => if q = r then (F r).set i x else F q) := by
  have hb : ∃ cs, Blk W b 3 cs := by
    rcases (h.met.own r hr).2 with ⟨e, _⟩ | ⟨g, cap, cur, e, _, hh, _⟩
    · rw [hR] at e; cases e
    · rw [hR] at e; cases e; exact ⟨cur, hh⟩
  obtain ⟨cs, hk⟩ := hb
  exact ⟨h.len, row_far h.crow hk (by decide) _, fun j u xs hj hx => row_far (h.cown j u xs hj hx) hk (by decide) _, h.met.set hr hR i x, h.clo, h.rlo, h.mlo, h.Rlo⟩
end
theorem met_line_at (tr : List (Nat × Nat)) (r : Nat) (l : List Mac) {pc : Nat} (h : pc < l.length) : (metLine tr r l)[pc]? = some ((tr.count (r, pc) : Nat) : Int) := by
  unfold metLine
  rw [List.getElem?_map, List.getElem?_range h]
  rfl
theorem met_line_len (tr : List (Nat × Nat)) (r : Nat) (l : List Mac) : (metLine tr r l).length = l.length := by unfold metLine; simp
theorem met_line_inc (tr : List (Nat × Nat)) (r pc q : Nat) (l : List Mac) (l2 : List Mac) (hq : q = r → l2 = l) :
    (if q = r then (metLine tr r l).set pc (((tr.count (r, pc) : Nat) : Int) + 1) else metLine tr q l2) = metLine (tr ++ [(r, pc)]) q l2 := by
  have key : ∀ i, (tr ++ [(r, pc)]).count (q, i) = tr.count (q, i) + if (r, pc) = (q, i) then 1 else 0 := fun i => by
    rw [List.count_append, List.count_singleton]
    simp only [beq_iff_eq]
  by_cases e : q = r
  · subst e
    obtain rfl := hq rfl
    rw [if_pos rfl]
    refine List.ext_getElem? fun i => ?_
    rw [List.getElem?_set]
    rcases Nat.lt_or_ge i l2.length with hi | hi
    · rw [met_line_at _ _ _ hi, met_line_at _ _ _ hi, key i, met_line_len]
      by_cases ei : pc = i
      · subst ei
        rw [if_pos rfl, if_pos hi, if_pos rfl]
        simp
      · rw [if_neg ei, if_neg (fun h => ei (Prod.mk.inj h).2)]
        simp
    · rw [List.getElem?_eq_none (l := metLine tr q l2) (by rw [met_line_len]; exact hi), List.getElem?_eq_none (l := metLine _ q l2) (by rw [met_line_len]; exact hi), met_line_len]
      split
      · rw [if_neg (by omega)]
      · rfl
  · rw [if_neg e]
    unfold metLine
    refine List.map_congr_left fun i _ => ?_
    rw [key i, if_neg (fun h => e (Prod.mk.inj h).1.symm), Nat.add_zero]
theorem met_line_nil (r : Nat) (l : List Mac) : metLine [] r l = List.replicate l.length 0 := by
  unfold metLine
  exact List.ext_getElem? fun i => by
    rw [List.getElem?_map, List.getElem?_replicate]
    rcases Nat.lt_or_ge i l.length with hi | hi
    · rw [List.getElem?_range hi, if_pos hi]; rfl
    · rw [List.getElem?_eq_none (by simpa using hi), if_neg (by omega)]; rfl
/-- What the World of a run says of its newest call. -/
theorem WIs.top {W : World} {g base : Nat} {inp : List Int} {s : Mch} {c : Fr} {cs : List Fr} (h : WIs W g base inp s) (hc : s.calls = c :: cs) : ∃ b3 c3 b4 c4, W.cell? ⟨g, 3, none⟩ = some (.slice (some ⟨b3, 0, none⟩) (cs.length + 1) c3) ∧ W.cell? ⟨g, 4, none⟩ = some (.slice (some ⟨b4, 0, none⟩) (cs.length + 1) c4) ∧
    W.cell? ⟨b3, cs.length, none⟩ = some (.int .i64 (c.r : Int)) ∧ W.cell? ⟨b4, cs.length, none⟩ = some (.int .i64 (c.pc : Int)) := by
  obtain ⟨R, rd, hW, _⟩ := h
  have e3 : wX s 3 = whoW cs ++ [(c.r : Int)] := by show whoW s.calls = _; rw [hc, whoW_cons]
  have e4 : wX s 4 = atW cs ++ [(c.pc : Int)] := by show atW s.calls = _; rw [hc, atW_cons]
  have l3 : (wX s 3).length = cs.length + 1 := by rw [e3, List.length_append, whoW_len]; rfl
  have l4 : (wX s 4).length = cs.length + 1 := by rw [e4, List.length_append, atW_len]; rfl
  obtain ⟨b3, c3, r3, _⟩ := hW.got (i := 3) (by omega) (by omega)
  obtain ⟨b4, c4, r4, _⟩ := hW.got (i := 4) (by omega) (by omega)
  rw [l3] at r3
  rw [l4] at r4
  refine ⟨b3, c3, b4, c4, ?_, ?_, hW.cell (i := 3) (by omega) r3 ?_, hW.cell (i := 4) (by omega) r4 ?_⟩
  · have := hW.blk.cell 3
    rw [← r3]; exact this
  · have := hW.blk.cell 4
    rw [← r4]; exact this
  · rw [e3, List.getElem?_append_right (by rw [whoW_len]; exact Nat.le_refl _), whoW_len, Nat.sub_self]; rfl
  · rw [e4, List.getElem?_append_right (by rw [atW_len]; exact Nat.le_refl _), atW_len, Nat.sub_self]; rfl
theorem ref_done {w wx : World} {h4 bs n : Nat} {gv rv cv mv ov : Value} {rs : List Value} {R : Nat → Value} {tr : List (Nat × Nat)} {css : List (List Mac)} {s : Mch} (h : RunNow w w.heap.size w.heap.size gv rv (fun _ _ => True) [] wx)
    (hL : Low wx h4 bs cv mv rs R css fun q => metLine tr q (css.getD q [])) (hlo : w.heap.size ≤ h4) (hb : h4 ≤ bs) (ho : wx.ownsRow bs 3 1 ov n (intV s.out)) (hn : n = s.out.length) :
    MetPost w (metRows css tr) s (0, 0) (.returned (.tuple #[mv, .agg #[.int .i64 s.state, .int .i64 s.value, ov, .int .i64 (s.steps : Int)], .agg #[.int .i64 0, .int .i64 0]]))
      ((((((wx.setCell ⟨w.heap.size + 1, 0, none⟩ (.int .i64 s.state)).setCell ⟨w.heap.size + 1, 1, none⟩ (.int .i64 s.value)).setCell ⟨w.heap.size + 1, 2, none⟩ ov).setCell ⟨w.heap.size + 1, 3, none⟩ (.int .i64 (s.steps : Int))).setCell ⟨w.heap.size + 1 + 1, 0, none⟩ (.int .i64 0)).setCell ⟨w.heap.size + 1 + 1, 1, none⟩ (.int .i64 0)).drew := by
  subst hn
  have hend := (h.end_ (.int .i64 s.state) (.int .i64 s.value) ov (.int .i64 (s.steps : Int)) (.int .i64 0) (.int .i64 0)).2.2
  obtain ⟨rl, q1, q2, q3⟩ := hL.met.rows
  have o2 := h.row q2 (by decide) (by decide) (.int .i64 s.state) (.int .i64 s.value) ov (.int .i64 (s.steps : Int)) (.int .i64 0) (.int .i64 0)
  have o3 := fun i r xs hr hx => h.row (q3 i r xs hr hx) (by decide) (by decide) (.int .i64 s.state) (.int .i64 s.value) ov (.int .i64 (s.steps : Int)) (.int .i64 0) (.int .i64 0)
  have o4 := h.row ho (by decide) (by decide) (.int .i64 s.state) (.int .i64 s.value) ov (.int .i64 (s.steps : Int)) (.int .i64 0) (.int .i64 0)
  exact ⟨mv, ov, rfl, ⟨rl, q1, row_more (World.ownsRow.drew o2) hlo, fun i r xs hr hx => row_more (World.ownsRow.drew (o3 i r xs hr hx)) hlo⟩, row_more (World.ownsRow.drew o4) (Nat.le_trans hlo hb), h.below.trans (below_drew1 (hend.mono (Nat.le_succ _)))⟩
theorem one_zero (w : World) : OwnInts (w.alloc (.cells #[.int .i64 0] 3)) w.heap.size (.slice (some ⟨w.heap.size, 0, none⟩) 1 1) [0] :=
  ⟨rfl, .inr ⟨w.heap.size, 1, _, rfl, Nat.le_refl _, heap_alloc_new w _, Nat.le_refl _, by unfold maxLen; omega, by simp, rfl⟩⟩
def pvW (a b : Value) : Nat → Option Value := fun j => if j = 1 then some a else if j = 2 then some b else none
theorem pvW_new (a b : Value) : ∀ i, isNew i → pvW a b i = none := fun i h => by
  unfold isNew at h
  unfold pvW
  rw [if_neg (by omega), if_neg (by omega)]
def refRel (css : List (List Mac)) (s0 : Mch) (fn : Nat) (w : World) (gv rv : Value) (inp : List Int) (g h4 bs : Nat) (cv mv : Value) (k : Nat) (wr : World) : Prop :=
  ∃ j rs R, j + k = fn ∧ Hid (WIs wr g bs inp (runS css s0 j)) ∧ Hid ((runS css s0 j).steps = j) ∧ Hid (RunNow w w.heap.size w.heap.size gv rv (fun _ _ => True) [] wr) ∧ Hid (Low wr h4 bs cv mv rs R css fun q => metLine (metS css s0 j) q (css.getD q []))
end Go.Proofs.YtkiaffaieniebaaDoor
