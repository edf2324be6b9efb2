/-
  Texts of the claim AsmWholeSays (AwE AwF AwG): what each proves stands at its theorems.
  Conditions: as the theorems say.
-/
import Derived.Test.YtdldochhondifaaGreatDoorVAwD
namespace Go.Proofs.YtdldochhondifaaGreatDoor
open Go.RowKit
attribute [local go_sem] Oper.semAt_some

theorem calls_mem {code : List Ins} {i : Nat} {c : List UInt8} : (i, c) ∈ callsOf code ↔ ∃ x, code[i]? = some x ∧ x.call = some c := by
  unfold callsOf
  rw [List.mem_filterMap]
  constructor
  · rintro ⟨⟨x, j⟩, h1, h2⟩
    obtain ⟨c', h3, h4⟩ := Option.map_eq_some_iff.1 h2
    cases h4
    exact ⟨x, by have := List.mk_mem_zipIdx_iff_getElem?.1 h1; exact this, h3⟩
  · rintro ⟨x, h1, h2⟩
    exact ⟨(x, i), List.mk_mem_zipIdx_iff_getElem?.2 h1, by rw [h2]; rfl⟩
structure LinkNow (names : List (List UInt8)) (st : PSt) (cs : List (Nat × List UInt8)) (ms : List Mac) : Prop where
  len : ms.length = st.code.length
  yes : ∀ (i : Nat) (x : Ins) (c : List UInt8), st.code[i]? = some x → x.call = some c → (i, c) ∈ cs → ms[i]? = some (linkP names st.labs x)
  no : ∀ (i : Nat) (x : Ins), st.code[i]? = some x → (∀ c, x.call = some c → (i, c) ∉ cs) → ms[i]? = some (setP st.labs x)
theorem LinkNow.start (names : List (List UInt8)) (st : PSt) : LinkNow names st [] (settled st) :=
  ⟨settled_len st, fun i x c _ _ h => by simp at h, fun i x hx _ => by unfold settled; rw [List.getElem?_map, hx]; rfl⟩
theorem link_eq {names : List (List UInt8)} {labs : List (Int × Nat)} {x : Ins} {c : List UInt8} {p : Nat} (hc : x.call = some c) (hp : findP names c = some p) : linkP names labs x = { setP labs x with n := (p : Int) } ∧ { linkP names labs x with n := (p : Int) } = linkP names labs x := by
  unfold linkP
  rw [hc]
  simp only
  rw [hp]
  exact ⟨rfl, rfl⟩
theorem LinkNow.next {names : List (List UInt8)} {st : PSt} {cs : List (Nat × List UInt8)} {ms : List Mac} (h : LinkNow names st cs ms) {i : Nat} {c : List UInt8} {x : Ins} {p : Nat} {m : Mac} (hx : st.code[i]? = some x) (hc : x.call = some c) (hp : findP names c = some p) (hm : ms[i]? = some m) :
    LinkNow names st (cs ++ [(i, c)]) (ms.set i { m with n := (p : Int) }) := by
  have hi := (List.getElem?_eq_some_iff.1 hm).1
  have hme : { m with n := (p : Int) } = linkP names st.labs x := by
    obtain ⟨e1, e2⟩ := link_eq (labs := st.labs) hc hp
    by_cases hin : (i, c) ∈ cs
    · rw [h.yes i x c hx hc hin] at hm
      cases hm
      exact e2
    · rw [h.no i x hx (fun c' hc' => by rw [hc] at hc'; cases hc'; exact hin)] at hm
      cases hm
      exact e1.symm
  rw [hme]
  refine ⟨by rw [List.length_set]; exact h.len, fun j y c' hy hc' hin => ?_, fun j y hy hno => ?_⟩
  · by_cases e : i = j
    · subst e
      rw [hx] at hy
      cases hy
      rw [List.getElem?_set_self hi]
    · rw [List.getElem?_set_ne e]
      rcases List.mem_append.1 hin with hin | hin
      · exact h.yes j y c' hy hc' hin
      · rw [List.mem_singleton] at hin
        cases hin
        exact absurd rfl e
  · by_cases e : i = j
    · subst e
      rw [hx] at hy
      cases hy
      exact absurd (List.mem_append.2 (.inr (List.mem_singleton.2 rfl))) (hno c hc)
    · rw [List.getElem?_set_ne e]
      exact h.no j y hy fun c' hc' hin => hno c' hc' (List.mem_append.2 (.inl hin))
theorem LinkNow.done {names : List (List UInt8)} {st : PSt} {ms : List Mac} (h : LinkNow names st (callsOf st.code) ms) : ms = linked names st := by
  refine List.ext_getElem? fun i => ?_
  unfold linked
  rw [List.getElem?_map]
  cases hx : st.code[i]? with
  | none =>
    rw [List.getElem?_eq_none_iff] at hx
    rw [List.getElem?_eq_none (by rw [h.len]; exact hx)]
    rfl
  | some x =>
    rw [Option.map_some]
    cases hc : x.call with
    | none =>
      rw [h.no i x hx (fun c hc' => by rw [hc] at hc'; cases hc')]
      unfold linkP
      rw [hc]
    | some c => rw [h.yes i x c hx hc (calls_mem.2 ⟨x, hx, hc⟩)]
theorem find_lt {names : List (List UInt8)} {c : List UInt8} {p : Nat} (h : findP names c = some p) : p < names.length := by
  unfold findP at h
  exact (List.findIdx?_eq_some_iff_getElem.1 h).1
theorem find_first (names : List (List UInt8)) (c : List UInt8) : firstS (fun x => x == c) names = match findP names c with
    | some i => (i : Int)
    | none => -1 := rfl
/-- What has been settled and linked is of 64 bits. -/
theorem setP_ok {st : PSt} (hs : settleP st = none) {n : Nat} (hok : StOk st n) (hn : n ≤ 1000000) {x : Ins} (hx : x ∈ st.code) : (setP st.labs x).ok := by
  have hxo := (hok.1 x hx).1
  unfold settleP at hs
  rw [List.findIdx?_eq_none_iff] at hs
  have hl := hs x hx
  unfold setP
  unfold lostP at hl
  cases hg : x.goal with
  | none => exact hxo
  | some g =>
    rw [hg] at hl
    simp only at hl ⊢
    cases hp : placeP st.labs g with
    | none => rw [hp] at hl; cases hl
    | some at_ =>
      rw [hp] at hl
      simp only [decide_eq_false_iff_not] at hl
      have h2 := hok.2.1
      refine ⟨hxo.op, hxo.dst, hxo.a, hxo.b, ?_⟩
      simp only [Option.getD_some]
      exact ⟨by omega, by omega⟩
theorem linked_ok {names : List (List UInt8)} {st : PSt} (hs : settleP st = none) {n : Nat} (hok : StOk st n) (hn : n ≤ 1000000) (hnm : names.length ≤ 1000000) : ∀ m ∈ linked names st, m.ok := by
  intro m hm
  unfold linked at hm
  obtain ⟨x, hx, rfl⟩ := List.mem_map.1 hm
  have h := setP_ok hs hok hn hx
  unfold linkP
  cases hc : x.call with
  | none => exact h
  | some c =>
    refine ⟨h.op, h.dst, h.a, h.b, ?_⟩
    simp only
    cases hp : findP names c with
    | none => exact ⟨by decide, by decide⟩
    | some p =>
      have := find_lt hp
      simp only [Option.getD_some]
      exact ⟨by omega, by omega⟩
theorem sect_lost {names : List (List UInt8)} {st : PSt} (hs : settleP st = none) {i : Nat} {c : List UInt8} {x : Ins} (hx : st.code[i]? = some x) (hc : x.call = some c) (hp : findP names c = none) : sectP names st = 6 := by
  unfold sectP
  rw [hs, if_neg (by simp), if_pos]
  rw [List.any_eq_true]
  refine ⟨x, List.mem_of_getElem? hx, ?_⟩
  unfold callLost
  rw [hc]
  simp only
  rw [hp]
  rfl
theorem sect_found {names : List (List UInt8)} {st : PSt} (hs : settleP st = none) (h : ∀ i c, (i, c) ∈ callsOf st.code → ∃ p, findP names c = some p) : sectP names st = (checkS (linked names st)).1 := by
  unfold sectP
  rw [hs, if_neg (by simp), if_neg]
  rw [List.any_eq_true]
  rintro ⟨x, hx, hl⟩
  obtain ⟨i, hi⟩ := List.mem_iff_getElem?.1 hx
  unfold callLost at hl
  cases hc : x.call with
  | none => rw [hc] at hl; cases hl
  | some c =>
    rw [hc] at hl
    simp only at hl
    obtain ⟨p, hp⟩ := h i c (calls_mem.2 ⟨x, hi, hc⟩)
    rw [hp] at hl
    cases hl

set_option maxRecDepth 100000 in
theorem same_name (bx : Nat) (nm c : List UInt8) (q : Value) (g : Nat) (x1 x2 x3 x4 : Value) (w : World) (hb : Blk w bx 56 #[.string (mkS nm), x1, x2, x3, x4]) (hg : Blk w g 122 #[q, .string (mkS c)]) :
    Calls Tryz.prog 87 #[.pointer (some ⟨bx, 0, none⟩), .pointer (some ⟨g, 0, none⟩)] w fun e w' => e = .returned (.bool (nm == c)) ∧ Below w.heap.size w w' := by
  have b0 := hb.cell 0
  have g1 := hg.cell 1
  have q1 : ((mkS nm).toList == (mkS c).toList) = (nm == c) := by rw [mkS_toList, mkS_toList]
  generalize hres : (nm == c) = r at *
  clear hb hg hres
  go_enter Tryz.func87, Tryz.ntmps87
  go_wp2_with fail
  go_quiet (fail)
  go_wp2_with fail
  go_ret
  exact ⟨rfl, below_drewn _ _ _⟩
set_option maxRecDepth 100000 in
set_option maxHeartbeats 1000000 in
/-- slices.IndexFunc over sections, by their names. -/
theorem IndexP_any (F : FuncId) (cap : Array Value) (B : Nat) (v : Value) (ds : List SecD) (es : List SecE) (p : List UInt8 → Bool) (w : World) (hv : OwnPs w B v ds) (hlen : ds.length = es.length) (hc : ∀ (a : Array Value) (W : World), (callFunc F a).run Tryz.prog W = .ok (.enter F a) W)
    (HF : ∀ (d : SecD) (e : SecE) (k : Nat) (W : World), ds[k]? = some d → es[k]? = some e → Below w.heap.size w W → Calls Tryz.prog F (#[.pointer (some ⟨d.bx, 0, none⟩)] ++ cap) W fun z W' => z = .returned (.bool (p e.name)) ∧ Below W.heap.size W W') :
    Calls Tryz.prog 86 #[v, .func (.func F) #[] cap] w fun z w' => z = .returned (.int .i64 (firstS p (es.map fun e => e.name))) ∧ Below w.heap.size w w' := by
  have HV := Lib.hid hv
  have Hf := Lib.hid HF
  obtain ⟨A, c, hvv⟩ := row_form hv
  subst hvv
  obtain ⟨len, hl⟩ : ∃ len, ds.length = len := ⟨_, rfl⟩
  have h63 : len ≤ 9223372036854775807 := by
    rcases hv.2 with ⟨_, h⟩ | ⟨g, cap, cur, _, _, _, hnc, hcm, _⟩
    · omega
    · unfold maxLen at hcm; omega
  have HL := Lib.hid hl
  have HLe := Lib.hid hlen
  rw [hl] at HV ⊢
  clear hl hlen HF hv
  generalize hres : firstS p (es.map fun e => e.name) = res at *
  have Hres := Lib.hid hres
  clear hres
  go_enter Tryz.func86, Tryz.ntmps86
  go_wp2_with fail
  go_loopw [8] (fun i wr => ∃ k : Nat, k ≤ len ∧ i = .int .i64 k ∧ Hid (∀ (j : Nat) (n : List UInt8), j < k → (es.map fun e => e.name)[j]? = some n → p n = false) ∧ Hid (Below w.heap.size w wr)) (fun i _ => len - (intOf i).toNat)
  case atStart => exact ⟨0, Nat.zero_le _, rfl, Lib.hid (fun j _ h => absurd h (Nat.not_lt_zero j)), Lib.hid (Below.refl _ _)⟩
  case round =>
    obtain ⟨k, hk, rfl, HN, HB⟩ := hrel
    by_cases hlt : k < len
    · obtain ⟨d, hd⟩ : ∃ d, ds[k]? = some d := ⟨ds[k]'(by rw [HL.out]; exact hlt), List.getElem?_eq_getElem _⟩
      obtain ⟨e, he⟩ : ∃ e, es[k]? = some e := ⟨es[k]'(by rw [← HLe.out, HL.out]; exact hlt), List.getElem?_eq_getElem _⟩
      obtain ⟨b, c', hbe, _, hbw, c0⟩ := (show OwnPs w B (.slice A ds.length c) ds from by rw [HL.out]; exact HV.out).at_ hd
      have hA : A = some ⟨b, 0, none⟩ := (Value.slice.inj hbe).1
      subst hA
      have c0 := (bcell HB.out hbw).trans c0
      have hF := Hf.out d e k wr hd he HB.out
      have HFk := Lib.hid hF
      have hn : (es.map fun e => e.name)[k]? = some e.name := by rw [List.getElem?_map, he]; rfl
      have Hn := Lib.hid hn
      clear hbe hbw hd he hF hn
      go_wp2_with fail
      refine HFk.out.mono ?_
      rintro z w1 ⟨rfl, hb1⟩
      have HB1 := Lib.hid (HB.out.trans (hb1.mono HB.out.size))
      clear hb1 HFk
      cases hp : p e.name
      · have Hp := Lib.hid hp
        clear hp
        go_wp2_with fail
        go_roundw
        case rel =>
          refine ⟨k + 1, by omega, by go_num, Lib.hid fun j n hj hg => ?_, HB1⟩
          rcases Nat.lt_or_ge j k with h | h
          · exact HN.out j n h hg
          · obtain rfl : j = k := by omega
            rw [Hn.out] at hg
            cases hg
            exact Hp.out
        case measure => simp [intOf]; omega
      · have HR := Lib.hid (firstS_hit (p := p) Hn.out hp fun j n hj hg => HN.out j n hj hg)
        clear hp
        go_wp2_with fail
        go_ret
        exact ⟨ret_int (HR.out.symm.trans Hres.out), HB1.out⟩
    · have HR := Lib.hid (firstS_none (p := p) (l := es.map fun e => e.name) fun j n hg => HN.out j n (by have h1 := (List.getElem?_eq_some_iff.1 hg).1; rw [List.length_map, ← HLe.out, HL.out] at h1; omega) hg)
      go_wp2_with fail
      go_ret
      exact ⟨ret_int (HR.out.symm.trans Hres.out), HB.out⟩

theorem own_more {w : World} {base base' size n : Nat} {e : TypeId} {v : Value} {xs : List Value} (h : w.ownsRow base e size v n xs) (hb : base' ≤ base) : w.ownsRow base' e size v n xs := by
  obtain ⟨h1, h2⟩ := h
  refine ⟨h1, ?_⟩
  rcases h2 with h2 | ⟨g, cap, cur, e, hg, h3⟩
  · exact .inl h2
  · exact .inr ⟨g, cap, cur, e, Nat.le_trans hb hg, h3⟩
set_option maxRecDepth 100000 in
set_option maxHeartbeats 2000000 in
theorem Code_own (v : Value) (ms : List Mac) (w : World) (hv : MacsAt w w.heap.size v ms) (ht : Tab w) (hi : ∀ m ∈ ms, m.ok) :
    Calls Tryz.prog 49 #[v] w fun e w' => ∃ A n c, e = .returned (.tuple #[.slice A n c, .agg #[.int .i64 (checkS ms).1, .int .i64 (checkS ms).2]]) ∧ OwnB w' w.heap.size (.slice A n c) (codeL ms) ∧ Below w.heap.size w w' := by
  have HV := Lib.hid hv
  have HT := Lib.hid ht
  have HI := Lib.hid hi
  have hA : Below w.heap.size w (w.alloc (.cells #[.int .i64 0, .int .i64 0] 24)) := (Below.refl _ _).alloc (Nat.le_refl _) _
  have HC := Lib.hid (Check_any v ms (w.alloc (.cells #[.int .i64 0, .int .i64 0] 24)) ((HV.out.below hA (Nat.le_refl _)).more (by simp)) (HT.out.own hA))
  clear hv ht hi hA
  by_cases hf : (checkS ms).1 = 0
  · have hf0 : ((checkS ms).1 != 0) = false := by simp [hf]
    have Hf := Lib.hid hf
    have HW := Lib.hid (writes_of_check hf HI.out)
    have HZ : Hid (checkS ms = (0, 0)) := Lib.hid (check_zero hf)
    clear hf
    go_enter Tryz.func49, Tryz.ntmps49
    go_wp2_with fail
    refine HC.out.mono ?_
    rintro e w1 ⟨rfl, hb1⟩
    have hz : w.heap.size < w1.heap.size := by have := hb1.size; simp at this; omega
    have h0 := (Blk.new w 24 #[.int .i64 0, .int .i64 0]).below hb1 (by simp)
    have HK1 := Lib.hid (h0.alloc (.cells #[.int .i64 (checkS ms).1, .int .i64 (checkS ms).2] 24))
    have HB1 : Hid (Below w.heap.size w (w1.alloc (.cells #[.int .i64 (checkS ms).1, .int .i64 (checkS ms).2] 24))) := Lib.hid ((((Below.refl _ _).alloc (Nat.le_refl _) _).trans (hb1.mono (by simp))).alloc (by omega) _)
    clear hb1 h0
    go_wp2_with fail
    generalize w1.alloc (.cells #[.int .i64 (checkS ms).1, .int .i64 (checkS ms).2] 24) = W1 at *
    refine (BOf_any v ms _ ((HV.out.below HB1.out (Nat.le_refl _)).more HB1.out.size) (HT.out.own HB1.out) HW.out.2 HW.out.1).mono ?_
    rintro e w2 ⟨v2, rfl, ho, hb2⟩
    have hk2 := HK1.out.below hb2 HK1.out.lt
    have r0 := hk2.cell 0
    have r1 := hk2.cell 1
    have f0 := hk2.frozen 0
    have f1 := hk2.frozen 1
    have HK2 := Lib.hid hk2
    have HB2 := Lib.hid (HB1.out.trans (hb2.mono HB1.out.size))
    obtain ⟨A, c, hform⟩ := row_form ho
    subst hform
    have HO := Lib.hid ho
    have hz2 : w.heap.size < W1.heap.size := HK1.out.lt
    clear hb2 hk2 ho
    go_wp2_with fail
    refine end_tmp_cell rfl rfl (HK2.out.set2 _ _) Tryz.underlying24 rfl (by kernel_rfl) rfl ⟨A, _, c, by rw [HZ.out]; rfl, ?_, (HB2.out.setCell (by simp) _).setCell (by simp) _⟩
    unfold codeL
    rw [if_pos Hf.out]
    exact own_more (ownsRow_setCell_below (a := ⟨w.heap.size, 1, none⟩) (ownsRow_setCell_below (a := ⟨w.heap.size, 0, none⟩) HO.out hz2 _) hz2 _) (Nat.le_of_lt hz2)
  · have hf0 : ((checkS ms).1 != 0) = true := by simp [hf]
    have HL : Hid (codeL ms = []) := Lib.hid (by unfold codeL; rw [if_neg hf])
    clear hf
    go_enter Tryz.func49, Tryz.ntmps49
    go_wp2_with fail
    refine HC.out.mono ?_
    rintro e w1 ⟨rfl, hb1⟩
    have hz : w.heap.size < w1.heap.size := by have := hb1.size; simp at this; omega
    have h0 := (Blk.new w 24 #[.int .i64 0, .int .i64 0]).below hb1 (by simp)
    have r0 := h0.cell 0
    have r1 := h0.cell 1
    have f0 := h0.frozen 0
    have f1 := h0.frozen 1
    have HB1 : Hid (Below w.heap.size w w1) := Lib.hid (((Below.refl _ _).alloc (Nat.le_refl _) _).trans (hb1.mono (by simp)))
    have HK1 := Lib.hid h0
    clear hb1 h0
    go_wp2_with fail
    go_region
    all_goals
      go_wp2_with fail
      refine end_tmp_cell rfl rfl (Blk.alloc (HK1.out.set2 _ _) _) Tryz.underlying24 rfl (by kernel_rfl) rfl ⟨none, 0, 0, rfl, ?_, below_drew (Below.alloc (((HB1.out.setCell (by simp) _).setCell (by simp) _)) (by simp; omega) _)⟩
      rw [HL.out]
      exact OwnB.nil _ _
end Go.Proofs.YtdldochhondifaaGreatDoor
namespace Go.Proofs.YtdldochhondifaaGreatDoor
open Go.RowKit
attribute [local go_sem] Oper.semAt_some

/-- The whole while its routines are made. -/
structure WhE (w : World) (base wx : Nat) (gv sv : Value) (gl : List (Glob × Value)) (ds : List SecD) (es : List SecE) : Prop where
  blk : Blk w wx 70 #[gv, sv]
  globs : OwnGl w base gv gl
  ptrs : OwnPs w base sv ds
  secs : SecsM w base ds es
  ge : base ≤ wx
section
variable {w w' : World} {base wx : Nat} {gv sv : Value} {gl : List (Glob × Value)} {ds : List SecD} {es : List SecE}
theorem WhM.ents {x : WSt} (h : WhM w base wx gv sv gl ds x) : WhE w base wx gv sv gl ds (x.secs.map entOf) := ⟨h.blk, h.globs, h.ptrs, h.secs, h.ge⟩
theorem WhE.lt (h : WhE w base wx gv sv gl ds es) {k : Nat} (hk : InWh wx gv sv ds k) : k < w.heap.size := by
  rcases hk with rfl | hk | hk | hk
  · exact h.blk.lt
  · exact own_lt h.globs.row hk
  · exact own_lt h.ptrs hk
  · exact h.secs.lt hk
theorem WhE.below (h : WhE w base wx gv sv gl ds es) (hb : Below w.heap.size w w') : WhE w' base wx gv sv gl ds es :=
  ⟨h.blk.below hb h.blk.lt, ⟨own_at h.globs.row fun k e => hb.block k (own_lt h.globs.row e), fun g hg => (h.globs.inits g hg).below hb rfl⟩, own_at h.ptrs fun k e => hb.block k (own_lt h.ptrs e), h.secs.below hb, h.ge⟩
/-- A section has changed. -/
theorem WhE.put (h : WhE w base wx gv sv gl ds es) {i : Nat} {d : SecD} {e' : SecE} (hi : ds[i]? = some d) (ho : OutS d.In w w') (hs : SecOf w' base d e') : WhE w' base wx gv sv gl ds (es.set i e') := by
  obtain ⟨e, _, hse⟩ := h.secs.of hi
  have hset : ds.set i d = ds := by
    refine List.ext_getElem? fun j => ?_
    by_cases hj : i = j
    · subst hj
      rw [List.getElem?_set_self (List.getElem?_eq_some_iff.1 hi).1, hi]
    · rw [List.getElem?_set_ne hj]
  refine ⟨(ho.block wx h.blk.lt (hse.blk h.blk (by decide) (by decide) (by decide))).trans h.blk, ⟨own_at h.globs.row fun k e => ho.block k (own_lt h.globs.row e) (hse.row h.globs.row (by decide) (by decide) (by decide) e), fun g hg => ?_⟩, own_at h.ptrs fun k e => ho.block k (own_lt h.ptrs e) (hse.row h.ptrs (by decide) (by decide) (by decide) e), ?_, h.ge⟩
  · have hg' := h.globs.inits g hg
    exact own_at hg' fun k e => ho.block k (own_lt hg' e) (hse.row hg' (by decide) (by decide) (by decide) e)
  · have := h.secs.put hi ho hs (fun k hk => .inl hk)
    rwa [hset] at this
theorem names_set {i : Nat} {e e' : SecE} (hi : es[i]? = some e) (hn : e'.name = e.name) : (es.set i e').map (fun e => e.name) = es.map fun e => e.name := by
  rw [List.map_set, hn]
  refine List.ext_getElem? fun j => ?_
  by_cases hj : i = j
  · subst hj
    rw [List.getElem?_set_self (by rw [List.length_map]; exact (List.getElem?_eq_some_iff.1 hi).1), List.getElem?_map, hi]
    rfl
  · rw [List.getElem?_set_ne hj]
end
/-- What whole.routine leaves. -/
def RtPost (w : World) (base : Nat) (d : SecD) (y : SecP) (names : List (List UInt8)) (e : Ending) (w' : World) : Prop :=
  OutS d.In w w' ∧ ∃ A n c, e = .returned (.tuple #[.slice A n c, .int .i64 (sectP names y.st)]) ∧ (sectP names y.st = 0 → OwnB w' w.heap.size (.slice A n c) (bytesS (linked names y.st)) ∧ ∃ e', e'.name = y.name ∧ SecOf w' base d e')
section
variable {base wx : Nat} {gv sv : Value} {gl : List (Glob × Value)} {ds : List SecD} {es : List SecE}
set_option maxRecDepth 100000 in
set_option maxHeartbeats 8000000 in
theorem routine_any {i : Nat} {d : SecD} {y : SecP} {n : Nat} (w : World) (hS : Std w) (hM : WhE w base wx gv sv gl ds es) (hd : ds[i]? = some d) (he : es[i]? = some (entOf y)) (hbase : base ≤ w.heap.size) (hb10 : 10 ≤ base) (hok : StOk y.st n) (hn : n ≤ 1000000) (hes : es.length ≤ 1000000) :
    Calls Tryz.prog 37 #[.pointer (some ⟨wx, 0, none⟩), .pointer (some ⟨d.bx, 0, none⟩)] w (RtPost w base d y (es.map fun e => e.name)) := by
  obtain ⟨nm, st⟩ := y
  obtain ⟨bx, lb, cv, gov, kv⟩ := d
  simp only at hok ⊢
  obtain ⟨names, hnames⟩ : ∃ names, es.map (fun e => e.name) = names := ⟨_, rfl⟩
  have hsec : Sec w base bx nm st cv lb gov kv := hM.secs.each i _ _ hd he
  obtain ⟨kA, kc, hkv⟩ := row_form hsec.calls
  subst hkv
  obtain ⟨kn, hkn⟩ : ∃ kn, (callsOf st.code).length = kn := ⟨_, rfl⟩
  have Hkn := Lib.hid hkn
  rw [hkn] at hd hsec ⊢
  have HSt := Lib.hid (settle_any w hS hsec hbase hb10 (by have := hok.2.1; omega) hok.1)
  obtain ⟨sA, sc, hsv⟩ := row_form hM.ptrs
  subst hsv
  obtain ⟨sn, hsn⟩ : ∃ sn, ds.length = sn := ⟨_, rfl⟩
  rw [hsn] at hM
  rw [hnames]
  have Hsn := Lib.hid hsn
  have HNm := Lib.hid hnames
  have HM := Lib.hid hM
  have HS := Lib.hid hS
  have HB := Lib.hid hbase
  have Hd := Lib.hid hd
  have He := Lib.hid he
  have Hok := Lib.hid hok
  have Hnn := Lib.hid hn
  have Hes := Lib.hid hes
  have Hb10 := Lib.hid hb10
  clear hM hS hbase hd he hok hn hes hsn hnames hsec hb10 hkn
  cases hse : settleP st with
  | some j =>
    have HE : Hid (sectP names st = 6) := Lib.hid (by unfold sectP; rw [hse, if_pos (by rfl)])
    have Hse := Lib.hid hse
    have hj : (j : Int) ≥ 0 := Int.natCast_nonneg j
    clear hse
    go_enter Tryz.func37, Tryz.ntmps37
    go_wp2_with fail
    refine HSt.out.mono ?_
    rintro e W1 ⟨ho, h1, _⟩
    obtain rfl := h1 j Hse.out
    have HO := Lib.hid ho
    clear ho h1 HSt
    go_wp2_with fail
    go_ret2
    exact ⟨HO.out, none, 0, 0, by rw [HE.out]; rfl, fun h => by rw [HE.out] at h; cases h⟩
  | none =>
    have Hse := Lib.hid hse
    clear hse
    go_enter Tryz.func37, Tryz.ntmps37
    go_wp2_with fail
    refine HSt.out.mono ?_
    rintro e W1 ⟨ho, _, h2⟩
    obtain ⟨rfl, hm1⟩ := h2 Hse.out
    have HO1 := Lib.hid ho
    have HM1 := Lib.hid hm1
    have m4 := HM1.out.blk.cell 4
    simp only [List.getElem?_toArray, List.getElem?_cons_succ, List.getElem?_cons_zero] at m4
    have H0 : Hid (LinkNow names st ((callsOf st.code).take 0) (settled st) ∧ ∀ i c, (i, c) ∈ (callsOf st.code).take 0 → ∃ p, findP names c = some p) := Lib.hid ⟨LinkNow.start _ _, fun i c h => by simp at h⟩
    clear ho h2 hm1 HSt
    go_upto_region 4 with fail
    go_loopg [19] kn (fun gk iv wx => ∃ (j : Nat) (ms : List Mac), iv = .int .i64 (j : Int) ∧ j + gk = kn ∧ Hid (LinkNow names st ((callsOf st.code).take j) ms ∧ ∀ i c, (i, c) ∈ (callsOf st.code).take j → ∃ p, findP names c = some p) ∧ Hid (SecM wx base bx nm ms st.labs (goalsOf st.code) (callsOf st.code) cv lb gov (.slice kA kn kc)) ∧ Hid (OutS (InSec bx lb cv gov (.slice kA kn kc)) w wx))
    case atStart => exact ⟨0, _, rfl, by omega, H0, HM1, HO1⟩
    case round =>
      obtain ⟨j, ms, rfl, hj, HL, HMi, HOi⟩ := hrel
      clear H0 m4
      have HBs : Hid (Below base w wr) := Lib.hid (HOi.out.below HB.out fun k hk => HM1.out.low hk)
      have HSi : Hid (Std wr) := Lib.hid (HS.out.below HBs.out Hb10.out (Nat.le_trans HB.out HOi.out.size))
      have HWi : Hid (WhE wr base wx gv (.slice sA sn sc) gl ds (es.set i ⟨nm, ms, st.labs, goalsOf st.code, callsOf st.code⟩)) := Lib.hid (HM.out.put Hd.out HOi.out HMi.out)
      have HNi : Hid ((es.set i ⟨nm, ms, st.labs, goalsOf st.code, callsOf st.code⟩).map (fun e => e.name) = names) := Lib.hid ((names_set (e' := ⟨nm, ms, st.labs, goalsOf st.code, callsOf st.code⟩) He.out rfl).trans HNm.out)
      have HLs : Hid (ds.length = (es.set i ⟨nm, ms, st.labs, goalsOf st.code, callsOf st.code⟩).length) := Lib.hid HWi.out.secs.len
      have Hnml : Hid (names.length ≤ 1000000) := Lib.hid (by rw [← HNm.out, List.length_map]; exact Hes.out)
      rcases gk with _ | gk
      · obtain rfl : j = kn := by omega
        have hall : LinkNow names st (callsOf st.code) ms ∧ ∀ i c, (i, c) ∈ callsOf st.code → ∃ p, findP names c = some p := by
          have := HL.out
          rwa [List.take_of_length_le (by rw [Hkn.out]; exact Nat.le_refl _)] at this
        have hms := hall.1.done
        subst hms
        have HE : Hid (sectP names st = (checkS (linked names st)).1) := Lib.hid (sect_found Hse.out hall.2)
        have HC := Lib.hid (Code_own cv (linked names st) wr HMi.out.code.macs HSi.out.tab (linked_ok Hse.out Hok.out Hnn.out Hnml.out))
        obtain ⟨uc, huc⟩ : ∃ uc, (checkS (linked names st)).1 = uc := ⟨_, rfl⟩
        obtain ⟨ua, hua⟩ : ∃ ua, (checkS (linked names st)).2 = ua := ⟨_, rfl⟩
        rw [huc] at HE
        rw [huc, hua] at HC
        have Huc := Lib.hid huc
        have m1 := HMi.out.blk.cell 1
        clear hall huc hua
        go_wp2_with fail
        refine HC.out.mono ?_
        rintro e W3 ⟨A, n', c', rfl, hown, hb3⟩
        have HO4 : Hid (OutS (InSec bx lb cv gov (.slice kA j kc)) w (W3.alloc (.cells #[.int .i64 uc, .int .i64 ua] 24))) := Lib.hid ((HOi.out.trans (outS_of (S := InSec bx lb cv gov (.slice kA j kc)) hb3) fun _ _ h => h).trans (outS_of ((Below.refl _ _).alloc (Nat.le_refl _) _)) fun _ _ h => h)
        have HM4 : Hid (SecM (W3.alloc (.cells #[.int .i64 uc, .int .i64 ua] 24)) base bx nm (linked names st) st.labs (goalsOf st.code) (callsOf st.code) cv lb gov (.slice kA j kc)) := Lib.hid ((HMi.out.below hb3).below ((Below.refl _ _).alloc (Nat.le_refl _) _))
        have HF4 : Hid (Blk (W3.alloc (.cells #[.int .i64 uc, .int .i64 ua] 24)) W3.heap.size 24 #[.int .i64 uc, .int .i64 ua]) := Lib.hid (Blk.new _ _ _)
        have HV4 : Hid (OwnB (W3.alloc (.cells #[.int .i64 uc, .int .i64 ua] 24)) w.heap.size (.slice A n' c') (codeL (linked names st))) := Lib.hid (World.ownsRow.alloc (own_more hown HOi.out.size) _)
        clear hb3 hown HC m1
        go_upto_region 12 with fail
        generalize W3.alloc (.cells #[.int .i64 uc, .int .i64 ua] 24) = W4 at *
        generalize W3.heap.size = g4 at *
        have x0 := HF4.out.cell 0
        go_quiet (fail)
        go_wp2_with fail
        go_ret2
        refine ⟨⟨HO4.out.os, HO4.out.tape, HO4.out.output, HO4.out.size, HO4.out.block⟩, A, n', c', by rw [HE.out]; rfl, fun h => ⟨?_, ⟨nm, linked names st, st.labs, goalsOf st.code, callsOf st.code⟩, rfl, SecM.stay HM4.out fun _ _ => rfl⟩⟩
        rw [HE.out] at h
        have hv := HV4.out
        unfold codeL at hv
        rw [Huc.out, if_pos h] at hv
        exact hv
      · have hjl : j < kn := by omega
        obtain ⟨⟨ii, c⟩, hic⟩ : ∃ ic, (callsOf st.code)[j]? = some ic := ⟨(callsOf st.code)[j]'(by rw [Hkn.out]; exact hjl), List.getElem?_eq_getElem _⟩
        obtain ⟨x, hx, hxc⟩ := calls_mem.1 (List.mem_of_getElem? hic)
        have hcalls := HMi.out.calls
        rw [← Hkn.out] at hcalls
        obtain ⟨kb, kc', hbe, hkb, hc0, hc1⟩ := hcalls.at_ hic
        have hA : kA = some ⟨kb, 0, none⟩ := (Value.slice.inj hbe).1
        subst hA
        have k0 : (0 : Int) ≤ (j : Int) := Int.natCast_nonneg j
        have k1 : (j : Int) < (kn : Int) := by omega
        have Hx := Lib.hid hx
        have Hxc := Lib.hid hxc
        have Hic := Lib.hid hic
        obtain ⟨W2, hW2⟩ : ∃ W2, wr.alloc (.cells #[.int .i64 (ii : Int), .string (mkS c)] 122) = W2 := ⟨_, rfl⟩
        have hb2 : Below wr.heap.size wr W2 := by rw [← hW2]; exact (Below.refl _ _).alloc (Nat.le_refl _) _
        have HB2 := Lib.hid hb2
        have HG2 : Hid (Blk W2 wr.heap.size 122 #[.int .i64 (ii : Int), .string (mkS c)]) := Lib.hid (by rw [← hW2]; exact Blk.new _ _ _)
        have HW2m := Lib.hid (HWi.out.below hb2)
        have HIx := Lib.hid (IndexP_any 87 #[.pointer (some ⟨wr.heap.size, 0, none⟩)] base (.slice sA sn sc) ds (es.set i ⟨nm, ms, st.labs, goalsOf st.code, callsOf st.code⟩) (fun x => x == c) W2 (by rw [← Hsn.out]; have := HW2m.out.ptrs; rw [Hsn.out]; exact this) HLs.out (fun a W => MuLone.run_callFunc_enter Tryz.func87 (by kernel_rfl) rfl a W)
          (fun d' e' k W hd' he' hb => same_name d'.bx e'.name c (.int .i64 (ii : Int)) wr.heap.size _ _ _ _ W ((SecM.blk (HW2m.out.secs.each k d' e' hd' he')).below hb (SecM.blk (HW2m.out.secs.each k d' e' hd' he')).lt) (HG2.out.below hb HG2.out.lt)))
        rw [HNi.out, find_first] at HIx
        have HW2e := Lib.hid hW2
        have m1 := HW2m.out.blk.cell 1
        have HMi2 := Lib.hid (HMi.out.below hb2)
        obtain ⟨m, hm⟩ : ∃ m, ms[ii]? = some m := ⟨ms[ii]'(by rw [HL.out.1.len]; exact (List.getElem?_eq_some_iff.1 hx).1), List.getElem?_eq_getElem _⟩
        have Hm := Lib.hid hm
        obtain ⟨cb, cc, hcv, hcu0, hcf0⟩ := macs_form HMi.out.code hm
        subst hcv
        obtain ⟨cn, hcn⟩ : ∃ cn, ms.length = cn := ⟨_, rfl⟩
        have Hcn := Lib.hid hcn
        rw [hcn] at HMi HMi2 HO1 HOi HM1 Hd ⊢
        have hil : ii < cn := by rw [← hcn]; exact (List.getElem?_eq_some_iff.1 hm).1
        have i0 : (0 : Int) ≤ (ii : Int) := Int.natCast_nonneg ii
        have i1 : (ii : Int) < (cn : Int) := by omega
        clear hic hx hxc hcalls hbe hkb hb2 hm hcu0 hcf0 hcn
        go_upto_region 6 with fail
        clear hW2
        go_wp2_with fail
        refine HIx.out.mono ?_
        rintro e W3 ⟨rfl, hb3⟩
        have HG3 := Lib.hid (HG2.out.below hb3 HG2.out.lt)
        have HMi3 := Lib.hid (HMi2.out.below hb3)
        have HO3 : Hid (OutS (InSec bx lb (.slice (some ⟨cb, 0, none⟩) cn cc) gov (.slice (some ⟨kb, 0, none⟩) kn kc)) w W3) := Lib.hid ((HOi.out.trans (outS_of (S := InSec bx lb (.slice (some ⟨cb, 0, none⟩) cn cc) gov (.slice (some ⟨kb, 0, none⟩) kn kc)) HB2.out) fun _ _ h => h).trans (outS_of (hb3.mono (Nat.le_refl _))) fun _ _ h => h)
        clear hb3 HIx m1 hc0 hc1
        cases hfp : findP names c with
        | none =>
          have HE : Hid (sectP names st = 6) := Lib.hid (sect_lost Hse.out Hx.out Hxc.out hfp)
          clear hfp
          go_wp2_with fail
          go_ret2
          exact ⟨HO3.out, none, 0, 0, by rw [HE.out]; rfl, fun h => by rw [HE.out] at h; cases h⟩
        | some p =>
          have p0 : ¬ (p : Int) < 0 := by omega
          have Hfp := Lib.hid hfp
          have m1 := HMi3.out.blk.cell 1
          have g0 := HG3.out.cell 0
          clear hfp
          go_wp2_with fail
          go_still_tail 9, (by kernel_rfl)
          have HMd : Hid (SecM W3.drew base bx nm ms st.labs (goalsOf st.code) (callsOf st.code) (.slice (some ⟨cb, 0, none⟩) ms.length cc) lb gov (.slice (some ⟨kb, 0, none⟩) kn kc)) := Lib.hid (by rw [Hcn.out]; exact HMi3.out.stay fun _ _ => rfl)
          obtain ⟨cb', cc', hcv, ⟨u, hcu⟩, hcf⟩ := macs_form HMd.out.code Hm.out
          have hcb : cb' = cb := by
            have h1 := (Value.slice.inj hcv).1
            injection h1 with h1
            injection h1 with h1
            exact h1.symm
          subst hcb
          have HM5 : Hid (SecM (W3.drew.setCell ⟨cb', ii * 5 + 4, none⟩ (.int .i64 (p : Int))) base bx nm (ms.set ii { m with n := (p : Int) }) st.labs (goalsOf st.code) (callsOf st.code) (.slice (some ⟨cb', 0, none⟩) ms.length cc) lb gov (.slice (some ⟨kb, 0, none⟩) kn kc)) := Lib.hid (HMd.out.setN Hm.out (p : Int))
          have HO5 : Hid (OutS (InSec bx lb (.slice (some ⟨cb', 0, none⟩) ms.length cc) gov (.slice (some ⟨kb, 0, none⟩) kn kc)) w (W3.drew.setCell ⟨cb', ii * 5 + 4, none⟩ (.int .i64 (p : Int)))) := Lib.hid (by
            rw [Hcn.out]
            exact HO3.out.trans (OutS.drewn (outS_set (S := fun j => j = cb') W3.drew cb' (ii * 5 + 4) _ rfl)) fun j _ h => .inr (.inr (.inl (by rw [h]; rfl))))
          have HL5 : Hid (LinkNow names st ((callsOf st.code).take (j + 1)) (ms.set ii { m with n := (p : Int) }) ∧ ∀ i c, (i, c) ∈ (callsOf st.code).take (j + 1) → ∃ p, findP names c = some p) := Lib.hid (by
            rw [List.take_add_one, Hic.out]
            refine ⟨HL.out.1.next Hx.out Hxc.out Hfp.out Hm.out, fun i' c' h => ?_⟩
            rcases List.mem_append.1 h with h | h
            · exact HL.out.2 i' c' h
            · simp only [Option.toList_some, List.mem_singleton] at h
              cases h
              exact ⟨p, Hfp.out⟩)
          have c4 := hcu
          have hjm : j ≤ 1000000 := by have := calls_len st.code; have := Hok.out.2.1; have := Hnn.out; have := Hkn.out; omega
          clear hcv
          go_wp2_with fail
          go_roundg gk
          case measure => omega
          case rel => exact ⟨j + 1, _, by go_num, by omega, HL5, HM5, HO5⟩
end
end Go.Proofs.YtdldochhondifaaGreatDoor
namespace Go.Proofs.YtdldochhondifaaGreatDoor
open Go.RowKit
attribute [local go_sem] Oper.semAt_some

theorem num_bytes : ∀ (n : Nat), ∀ x ∈ numS n, 0 ≤ x ∧ x < 256 := by
  intro n
  induction n using Nat.strongRecOn with
  | ind n ih =>
    intro x hx
    rw [numS] at hx
    split at hx
    · rw [List.mem_singleton] at hx
      omega
    · rcases List.mem_cons.1 hx with rfl | hx
      · omega
      · exact ih (n / 128) (by omega) x hx
theorem packB_ok : ∀ (l : List Int), (∀ x ∈ l, 0 ≤ x ∧ x < 16) → ∀ x ∈ packS l, 0 ≤ x ∧ x < 256
  | [], _, x, hx => by simp [packS] at hx
  | [a], h, x, hx => by
    rw [packS, List.mem_singleton] at hx
    have := h a (by simp)
    omega
  | a :: b :: l, h, x, hx => by
    rw [packS] at hx
    rcases List.mem_cons.1 hx with rfl | hx
    · have h1 := h a (by simp)
      have h2 := h b (by simp)
      omega
    · exact packB_ok l (fun y hy => h y (by simp [hy])) x hx
theorem code_bytes {m : Mac} (h : Writes m) : ∀ x ∈ codeS m, 0 ≤ x ∧ x < 256 := by
  obtain ⟨ho, ⟨r1, r2, r3⟩, _⟩ := h
  intro x hx
  unfold codeS at hx
  rcases List.mem_cons.1 hx with rfl | hx
  · have := (isOp_iff _).1 ho
    omega
  · rcases List.mem_append.1 hx with hx | hx
    · refine packB_ok _ (fun y hy => ?_) x hx
      unfold regsS at hy
      rcases List.mem_append.1 hy with hy | hy
      · rcases List.mem_append.1 hy with hy | hy
        · split at hy
          · rename_i hd
            rw [List.mem_singleton] at hy
            subst hy
            exact r1 hd
          · simp at hy
        · split at hy
          · rename_i hd
            rw [List.mem_singleton] at hy
            subst hy
            exact r2 hd
          · simp at hy
      · split at hy
        · rename_i hd
          rw [List.mem_singleton] at hy
          subst hy
          exact r3 hd
        · simp at hy
    · split at hx
      · simp at hx
      · exact num_bytes _ x hx
theorem bytesS_ok {ms : List Mac} (h : (checkS ms).1 = 0) (hi : ∀ m ∈ ms, m.ok) : BytesOk (bytesS ms) := by
  intro x hx
  unfold bytesS at hx
  obtain ⟨l, hl, hx⟩ := List.mem_flatten.1 hx
  obtain ⟨m, hm, rfl⟩ := List.mem_map.1 hl
  exact code_bytes ((writes_of_check h hi).2 m hm) x hx

theorem OwnGl.globs {w : World} {base : Nat} {v : Value} {l : List (Glob × Value)} (h : OwnGl w base v l) : GlobsAt w w.heap.size v (l.map fun g => g.1) := by
  have hrow := h.row
  have hc := fun {g : Nat} (hg : v.ownBlock = some g) => World.ownsRow.cells hrow hg
  rcases hrow.2 with ⟨rfl, hn⟩ | ⟨g, cap, cur, rfl, _, hgg, hnc, hcm, _, _⟩
  · exact ⟨none, 0, by rw [List.length_map, hn], by rw [List.length_map]; omega, by omega, fun h => by rw [List.length_map] at h; omega⟩
  · refine ⟨some ⟨g, 0, none⟩, cap, by rw [List.length_map], by rw [List.length_map]; exact hnc, by unfold maxLen at hcm; omega, fun _ => ⟨g, 0, rfl, (Array.getElem?_eq_some_iff.1 hgg).1, fun k x hk => ?_⟩⟩
    have hadd : ∀ j, (⟨g, 0, none⟩ : Addr).add j = ⟨g, j, none⟩ := fun j => by unfold Addr.add; split <;> simp_all
    rw [List.getElem?_map] at hk
    obtain ⟨⟨gl, iv⟩, hg, rfl⟩ := Option.map_eq_some_iff.1 hk
    have hcells : ∀ (l : List (Glob × Value)) (k : Nat) (gl : Glob) (iv : Value), l[k]? = some (gl, iv) → (globCells l)[k * 3]? = some (.string gl.name) ∧ (globCells l)[k * 3 + 1]? = some (.int .i64 gl.size) ∧ (globCells l)[k * 3 + 2]? = some iv := by
      intro l
      induction l with
      | nil => intro k gl iv h; simp at h
      | cons a l ih =>
        intro k gl iv h
        cases k with
        | zero =>
          simp only [List.getElem?_cons_zero, Option.some.injEq] at h
          subst h
          unfold globCells
          exact ⟨rfl, rfl, rfl⟩
        | succ k =>
          have := ih k gl iv (by simpa using h)
          unfold globCells at this ⊢
          rw [List.map_cons, List.flatten_cons, show (k + 1) * 3 + 1 = k * 3 + 1 + 3 by omega, show (k + 1) * 3 + 2 = k * 3 + 2 + 3 by omega, show (k + 1) * 3 = k * 3 + 3 by omega]
          exact this
    obtain ⟨c0, c1, c2⟩ := hcells l k gl iv hg
    have h0 := hc (g := g) rfl _ _ c0
    have h1 := hc (g := g) rfl _ _ c1
    have h2 := hc (g := g) rfl _ _ c2
    rw [hadd] at h0 h1 h2
    rw [Nat.zero_add]
    exact ⟨iv, h0, h1, h2, (h.inits _ (List.mem_of_getElem? hg)).ints⟩
def routCells (l : List (Rout × Value)) : List Value := (l.map fun r => [Value.string r.1.name, r.2]).flatten
theorem routCells_snoc (l : List (Rout × Value)) (r : Rout × Value) : routCells (l ++ [r]) = routCells l ++ [.string r.1.name, r.2] := by
  unfold routCells
  rw [List.map_append, List.flatten_append]
  simp
structure OwnRts (w : World) (base : Nat) (v : Value) (l : List (Rout × Value)) : Prop where
  row : w.ownsRow base 76 2 v l.length (routCells l)
  codes : ∀ r ∈ l, OwnB w base r.2 r.1.code
theorem OwnRts.nil (w : World) (base : Nat) : OwnRts w base (.slice none 0 0) [] := ⟨World.ownsRow_nil w base 76 2, by simp⟩
theorem OwnRts.routs {w : World} {base : Nat} {v : Value} {l : List (Rout × Value)} (h : OwnRts w base v l) : RoutsAt w w.heap.size v (l.map fun r => r.1) := by
  have hrow := h.row
  have hc := fun {g : Nat} (hg : v.ownBlock = some g) => World.ownsRow.cells hrow hg
  rcases hrow.2 with ⟨rfl, hn⟩ | ⟨g, cap, cur, rfl, _, hgg, hnc, hcm, _, _⟩
  · exact ⟨none, 0, by rw [List.length_map, hn], by rw [List.length_map]; omega, by omega, fun h => by rw [List.length_map] at h; omega⟩
  · refine ⟨some ⟨g, 0, none⟩, cap, by rw [List.length_map], by rw [List.length_map]; exact hnc, by unfold maxLen at hcm; omega, fun _ => ⟨g, 0, rfl, (Array.getElem?_eq_some_iff.1 hgg).1, fun k x hk => ?_⟩⟩
    have hadd : ∀ j, (⟨g, 0, none⟩ : Addr).add j = ⟨g, j, none⟩ := fun j => by unfold Addr.add; split <;> simp_all
    rw [List.getElem?_map] at hk
    obtain ⟨⟨rt, cv⟩, hg, rfl⟩ := Option.map_eq_some_iff.1 hk
    have hcells : ∀ (l : List (Rout × Value)) (k : Nat) (rt : Rout) (cv : Value), l[k]? = some (rt, cv) → (routCells l)[k * 2]? = some (.string rt.name) ∧ (routCells l)[k * 2 + 1]? = some cv := by
      intro l
      induction l with
      | nil => intro k gl iv h; simp at h
      | cons a l ih =>
        intro k gl iv h
        cases k with
        | zero =>
          simp only [List.getElem?_cons_zero, Option.some.injEq] at h
          subst h
          unfold routCells
          exact ⟨rfl, rfl⟩
        | succ k =>
          have := ih k gl iv (by simpa using h)
          unfold routCells at this ⊢
          rw [List.map_cons, List.flatten_cons, show (k + 1) * 2 + 1 = k * 2 + 1 + 2 by omega, show (k + 1) * 2 = k * 2 + 2 by omega]
          exact this
    obtain ⟨c0, c1⟩ := hcells l k rt cv hg
    have h0 := hc (g := g) rfl _ _ c0
    have h1 := hc (g := g) rfl _ _ c1
    rw [hadd] at h0 h1
    rw [Nat.zero_add]
    exact ⟨cv, h0, h1, OwnB.bytes (h.codes _ (List.mem_of_getElem? hg))⟩

structure Ph2 (w : World) (base wx gi gf g8 : Nat) (gv sv rv : Value) (gl : List (Glob × Value)) (ds : List SecD) (es : List SecE) (rl : List (Rout × Value)) : Prop where
  whe : WhE w base wx gv sv gl ds es
  img : Blk w g8 43 #[gv, rv]
  rts : OwnRts w base rv rl
  res : Blk w gi 43 #[.slice none 0 0, .slice none 0 0]
  flt : Blk w gf 24 #[.int .i64 0, .int .i64 0]
  ne : gi ≠ g8
  ge8 : base ≤ g8
section
variable {w w' : World} {base wx gi gf g8 : Nat} {gv sv rv : Value} {gl : List (Glob × Value)} {ds : List SecD} {es : List SecE} {rl : List (Rout × Value)}
theorem Ph2.below (h : Ph2 w base wx gi gf g8 gv sv rv gl ds es rl) (hb : Below w.heap.size w w') : Ph2 w' base wx gi gf g8 gv sv rv gl ds es rl :=
  ⟨h.whe.below hb, h.img.below hb h.img.lt, ⟨own_at h.rts.row fun k e => hb.block k (own_lt h.rts.row e), fun r hr => (h.rts.codes r hr).below hb rfl⟩, h.res.below hb h.res.lt, h.flt.below hb h.flt.lt, h.ne, h.ge8⟩
theorem Ph2.put (h : Ph2 w base wx gi gf g8 gv sv rv gl ds es rl) {i : Nat} {d : SecD} {e' : SecE} (hi : ds[i]? = some d) (ho : OutS d.In w w') (hs : SecOf w' base d e') : Ph2 w' base wx gi gf g8 gv sv rv gl ds (es.set i e') rl := by
  obtain ⟨e, _, hse⟩ := h.whe.secs.of hi
  have hb : ∀ {g : Nat} {t : TypeId} {cs : Array Value}, Blk w g t cs → t ≠ 56 → t ≠ 39 → t ≠ 122 → Blk w' g t cs := fun hb h1 h2 h3 => (ho.block _ hb.lt (hse.blk hb h1 h2 h3)).trans hb
  refine ⟨h.whe.put hi ho hs, hb h.img (by decide) (by decide) (by decide), ⟨own_at h.rts.row fun k e => ho.block k (own_lt h.rts.row e) (hse.row h.rts.row (by decide) (by decide) (by decide) e), fun r hr => ?_⟩, hb h.res (by decide) (by decide) (by decide), hb h.flt (by decide) (by decide) (by decide), h.ne, h.ge8⟩
  have hr' := h.rts.codes r hr
  exact own_at hr' fun k e => ho.block k (own_lt hr' e) (hse.row hr' (by decide) (by decide) (by decide) e)
/-- A routine more. -/
theorem Ph2.addRout (h : Ph2 w base wx gi gf g8 gv sv rv gl ds es rl) {nm : ByteArray} {code : List Int} {cv rv' : Value} {H : Nat} (hap : Appended w base 76 2 rv (rl.length + 1) (routCells rl ++ [.string nm, cv]) H rv' w') (hcv : OwnB w base cv code) :
    Ph2 (w'.setCell ⟨g8, 1, none⟩ rv') base wx gi gf g8 gv sv rv' gl ds es (rl ++ [(⟨nm, code⟩, cv)]) ∧ Below base w (w'.setCell ⟨g8, 1, none⟩ rv') := by
  have hbx := hap.blk h.rts.row h.img (by decide)
  have hfar : ∀ k, k ≠ g8 → (w'.setCell ⟨g8, 1, none⟩ rv').heap[k]? = w'.heap[k]? := fun k hk => Below.heap_setCell w' ⟨g8, 1, none⟩ rv' k hk
  have hst : ∀ k, k < w.heap.size → k ≠ g8 → rv.ownBlock ≠ some k → (w'.setCell ⟨g8, 1, none⟩ rv').heap[k]? = w.heap[k]? := fun k hlt h1 h2 => (hfar k h1).trans (hap.2.2.1.block k hlt (fun e => h2 e.symm))
  have hrow : ∀ {b s n : Nat} {t : TypeId} {v : Value} {xs : List Value}, w.ownsRow b t s v n xs → t ≠ 43 → t ≠ 76 → (w'.setCell ⟨g8, 1, none⟩ rv').ownsRow b t s v n xs := fun hv h1 h2 => own_at hv fun k e => hst k (own_lt hv e) (by rintro rfl; exact ownBlk_ne hv h.img h1 e) (own_two hv h.rts.row h2 k e)
  have hblk : ∀ {g : Nat} {t : TypeId} {cs : Array Value}, Blk w g t cs → g ≠ g8 → t ≠ 76 → Blk (w'.setCell ⟨g8, 1, none⟩ rv') g t cs := fun hb h1 h2 => (hst _ hb.lt h1 (fun e => ownBlk_ne h.rts.row hb (fun e => h2 e.symm) e)).trans hb
  refine ⟨⟨⟨hblk h.whe.blk (by intro e; subst e; exact absurd (blk_ty h.whe.blk h.img) (by decide)) (by decide), ⟨hrow h.whe.globs.row (by decide) (by decide), fun g hg => hrow (h.whe.globs.inits g hg) (by decide) (by decide)⟩, hrow h.whe.ptrs (by decide) (by decide), ?_, h.whe.ge⟩, hbx.set_ 1 rv', ⟨?_, fun r hr => ?_⟩, hblk h.res h.ne (by decide), hblk h.flt (by intro e; subst e; exact absurd (blk_ty h.flt h.img) (by decide)) (by decide), h.ne, h.ge8⟩, hap.below.setCell h.ge8 _⟩
  · exact h.whe.secs.stay fun k hin => hst k (h.whe.secs.lt hin) (by rintro rfl; exact h.whe.secs.blk h.img (by decide) (by decide) (by decide) hin) fun e => h.whe.secs.row h.rts.row (by decide) (by decide) (by decide) e hin
  · have hr : w'.ownsRow base 76 2 rv' (rl ++ [((⟨nm, code⟩ : Rout), cv)]).length (routCells (rl ++ [((⟨nm, code⟩ : Rout), cv)])) := by
      rw [routCells_snoc, List.length_append]
      exact hap.own
    exact own_at hr fun k e => hfar k (by rintro rfl; exact ownBlk_ne hr hbx (by decide) e)
  · rcases List.mem_append.1 hr with hr | hr
    · exact hrow (h.rts.codes r hr) (by decide) (by decide)
    · rw [List.mem_singleton] at hr
      subst hr
      exact hrow hcv (by decide) (by decide)
end
end Go.Proofs.YtdldochhondifaaGreatDoor
