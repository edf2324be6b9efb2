/-
  Several texts in one (OfA OfB): what each proves stands at its theorems.
  Conditions: as the theorems say.
-/
import Derived.Test.YtiknhfbkphoceaaGreatDoorLvP
import Derived.Test.YtiknhfbkphoceaaGreatDoorLex
import Derived.WideKeyEntry
namespace Go.Proofs.YtiknhfbkphoceaaGreatDoor
open Go.RowKit
open Go.ChangeMaps Go.MapKept Go.WideShapes
open Go.WideElems (Fit rd rg pl rd_val rd_key rg_of elemAt findIdx_born findIdx_arr modify_last set_self)

/-- 'm[k], .. = v, ..': the entry is sought first, and filled then. -/
theorem entry_store {P : Program} {k e t : TypeId} {R : Value → Option (DataW Unit × List MemPlace)} {w : World} {b n : Nat} {D : DataW Unit} (h : w.ownsMap P k R b n D) (K : Maps.Keyed P k) (ht : P.underlying t = some (.map k e)) {z : Value}
    (hz : ∀ u : World, (zeroValue e).run P u = .ok z u) (hn : n < maxLen) {key val : Value} {kl : Lit} {d : DataW Unit} {ps : List MemPlace} (hkey : keyOf P k key = some kl) (hv : R val = some (d, ps)) :
    ∃ (v0 : Value) (st : Int) (w1 w2 : World), (Instr.mapEntry t (.map (some b)) key).run P w = .ok (.tuple #[v0, .int .i64 st]) w1 ∧ (Instr.entryStore t (.map (some b)) (.int .i64 st) val).run P w1 = .ok () w2 ∧
      w.mapTurned w1 b ∧ w2.ownsMap P k R b (n + 1) (D.put kl d) ∧ w.mapTurned w2 b := by
  obtain ⟨w', hrun, r1, r2⟩ := h.store K ht hn hkey hv
  obtain ⟨es, clock, hb, F, hs, rfl⟩ := h
  obtain ⟨s1, s2, _⟩ := F.stamped
  have hset : ∀ x y : Obj, setBlock (setBlock w b x) b y = setBlock w b y := fun x y => by simp [setBlock]
  have hat : ∀ x : Obj, (setBlock w b x).heap[b]? = some x := fun x => heap_setBlock_same hb x
  rcases K.find w hkey es.toList F.keys with ⟨h1, h2⟩ | ⟨j, e0, h1, h2, h3⟩
  · have hw : w' = setBlock w b (.map (es.push ⟨key, val, clock⟩) (clock + 1)) := by
      simp [Instr.mapUpdate, run_underlying ht, MapKept.run_getObj_map hb, K.check w false hkey, h1, MapKept.run_setObj_map _ hb, Result.andThen] at hrun
      simpa [setBlock] using hrun.symm
    refine ⟨z, clock, setBlock w b (.map (es.push ⟨key, z, clock⟩) (clock + 1)), w', ?_, ?_, ⟨es, clock, _, _, hb, rfl⟩, r1, r2⟩
    · simp [Instr.mapEntry, run_underlying ht, MapKept.run_getObj_map hb, K.check w false hkey, h1, hz, MapKept.run_setObj_map _ hb, Result.andThen, setBlock, goInt]
    · have hidx : (es.push ⟨key, z, clock⟩).findIdx? (fun e => ((e.born : Nat) : Int) == ((clock : Nat) : Int)) = some es.size := by
        rw [findIdx_arr]
        have h := findIdx_born (l := (es.push ⟨key, z, clock⟩).toList) (j := es.size) (e0 := ⟨key, z, clock⟩) (by
          simp only [Array.toList_push, List.map_append, List.map_cons, List.map_nil]
          refine List.nodup_append.2 ⟨s2, by simp, fun a ha c hc e1 => ?_⟩
          simp only [List.mem_singleton] at hc
          obtain ⟨x, hx, rfl⟩ := List.mem_map.1 ha
          have := s1 x hx
          omega) (by simp)
        exact h
      have hmod : (es.push ⟨key, z, clock⟩).modify es.size (fun e => { e with val := val }) = es.push ⟨key, val, clock⟩ := by
        apply Array.ext'
        rw [Array.toList_modify, Array.toList_push, Array.toList_push, ← Array.length_toList, modify_last]
      rw [hw]
      simp [Instr.entryStore, MapKept.run_getObj_map (hat _), asInt, asIntOf, hidx, hmod, MapKept.run_setObj_map _ (hat _), Result.andThen]
      exact hset _ _
  · have hj : es[j]? = some e0 := by simpa using h2
    have hsame : es.modify j (fun e => { e with key := key }) = es := by
      apply Array.ext'
      rw [Array.toList_modify, modify_eq_set _ _ _ _ h2]
      have : ({ e0 with key := key } : MapEntry) = e0 := by rw [← h3]
      rw [this]
      exact set_self _ _ _ h2
    have hw : w' = setBlock w b (.map (es.modify j (fun e' => { e' with key := key, val := val })) clock) := by
      simp [Instr.mapUpdate, run_underlying ht, MapKept.run_getObj_map hb, K.check w false hkey, h1, hj, h3, K.stays w hkey, MapKept.run_setObj_map _ hb, Result.andThen] at hrun
      simpa [setBlock] using hrun.symm
    refine ⟨e0.val, e0.born, setBlock w b (.map es clock), w', ?_, ?_, ⟨es, clock, _, _, hb, rfl⟩, r1, r2⟩
    · simp [Instr.mapEntry, run_underlying ht, MapKept.run_getObj_map hb, K.check w false hkey, h1, hj, h3, K.stays w hkey, hsame, MapKept.run_setObj_map _ hb, Result.andThen, setBlock, goInt]
    · have hidx : es.findIdx? (fun e => ((e.born : Nat) : Int) == ((e0.born : Nat) : Int)) = some j := by
        rw [findIdx_arr]
        exact findIdx_born s2 h2
      have hmod : es.modify j (fun e => { e with val := val }) = es.modify j (fun e' => { e' with key := key, val := val }) := by
        apply Array.ext'
        rw [Array.toList_modify, Array.toList_modify, modify_eq_set _ _ _ _ h2, modify_eq_set _ _ _ _ h2, ← h3]
      rw [hw]
      simp [Instr.entryStore, MapKept.run_getObj_map (hat _), asInt, asIntOf, hidx, hmod, MapKept.run_setObj_map _ (hat _), Result.andThen]
      exact hset _ _

theorem nodup_at {α : Type} {l : List α} (h : l.Nodup) {i j : Nat} {a : α} (hi : l[i]? = some a) (hj : l[j]? = some a) : i = j := by
  obtain ⟨i1, i2⟩ := List.getElem?_eq_some_iff.1 hi
  obtain ⟨j1, j2⟩ := List.getElem?_eq_some_iff.1 hj
  rcases Nat.lt_trichotomy i j with e | e | e
  · exact absurd (i2.trans j2.symm) (List.pairwise_iff_getElem.1 h i j i1 j1 e)
  · exact e
  · exact absurd (j2.trans i2.symm) (List.pairwise_iff_getElem.1 h j i j1 i1 e)
/-- A region that draws its order and in which the operations ks write, one behind the other: the worlds between. -/
def Chain (ks : List Nat) (Vs : List World) (L : Array Bool) (w : World) : Prop := ∃ i : Nat, Vs[i]? = some w ∧ ∀ j k, ks[j]? = some k → (L.getD k false = true ↔ j < i)
section
variable {ks : List Nat} {Vs : List World} {L : Array Bool} {w V V' : World} {j k : Nat}
theorem Chain.start {n : Nat} (h : Vs[0]? = some w) : Chain ks Vs (Array.replicate n false) w := by
  refine ⟨0, h, fun j k _ => ?_⟩
  have h : (Array.replicate n false).getD k false = false := by
    simp only [Array.getD_eq_getD_getElem?]
    rcases Nat.lt_or_ge k n with h | h
    · rw [Array.getElem?_eq_getElem (by simpa using h)]; simp
    · rw [Array.getElem?_eq_none (by simpa using h)]; rfl
  rw [h]
  simp
theorem Chain.keep (h : Chain ks Vs L w) (k : Nat) (hk : k ∉ ks) : Chain ks Vs (L.setIfInBounds k true) w := by
  obtain ⟨i, h1, h2⟩ := h
  refine ⟨i, h1, fun j k' hj => ?_⟩
  rw [getD_set_ne L k k' (fun e => hk (e ▸ List.mem_of_getElem? hj))]
  exact h2 j k' hj
theorem Chain.mem (h : Chain ks Vs L w) : w ∈ Vs := by
  obtain ⟨i, h1, _⟩ := h
  exact List.mem_of_getElem? h1
theorem Chain.at_ (h : Chain ks Vs L w) (hj : ks[j]? = some k) (hL : L.getD k true = false) (hn : ks.Nodup) (hp : ∀ k', j ≠ 0 → ks[j - 1]? = some k' → L.getD k' false = true) (hV : Vs[j]? = some V) (hV' : Vs[j + 1]? = some V') :
    V = w ∧ Chain ks Vs (L.setIfInBounds k true) V' := by
  obtain ⟨i, h1, h2⟩ := h
  have hi1 : ¬ j < i := fun e => by
    have := (h2 j k hj).2 e
    rw [getD_false L k hL] at this
    cases this
  have hjl := (List.getElem?_eq_some_iff.1 hj).1
  have hij : i = j := by
    rcases Nat.eq_zero_or_pos j with e | e
    · omega
    · obtain ⟨k', hk'⟩ : ∃ k', ks[j - 1]? = some k' := ⟨_, List.getElem?_eq_getElem (show j - 1 < ks.length by omega)⟩
      have := (h2 (j - 1) k' hk').1 (hp k' (by omega) hk')
      omega
  subst hij
  rw [hV] at h1
  refine ⟨Option.some.inj h1, i + 1, hV', fun j' k' hj' => ?_⟩
  by_cases e : k' = k
  · subst e
    rw [getD_set_eq L k' hL]
    have : j' = i := nodup_at hn hj' hj
    simp [this]
  · rw [getD_set_ne L k k' (fun e' => e e'.symm), h2 j' k' hj']
    have : j' ≠ i := fun e' => by
      subst e'
      rw [hj] at hj'
      exact e (Option.some.inj hj').symm
    omega
theorem Chain.end_ (h : Chain ks Vs L w) (hd : ∀ k ∈ ks, L.getD k false = true) (hV : Vs[ks.length]? = some V) (hl : Vs.length = ks.length + 1) : V = w := by
  obtain ⟨i, h1, h2⟩ := h
  have hi : i < ks.length + 1 := by rw [← hl]; exact (List.getElem?_eq_some_iff.1 h1).1
  have : i = ks.length := by
    rcases Nat.lt_or_ge i ks.length with e | e
    · have hk := List.getElem?_eq_getElem e
      have := (h2 i _ hk).1 (hd _ (List.getElem_mem e))
      omega
    · omega
  subst this
  rw [hV] at h1
  exact Option.some.inj h1
end
/-- Pairs put to what there is: both ways, none with itself. -/
def addPs (S : Int → Int → Bool) (L : List (Int × Int)) (x y : Int) : Bool := S x y || (decide (x ≠ y) && L.any fun p => decide (p.1 = x ∧ p.2 = y) || decide (p.1 = y ∧ p.2 = x))
theorem addPs_nil (S : Int → Int → Bool) : addPs S [] = S := by
  funext x y
  simp [addPs]
theorem addPs_app (S : Int → Int → Bool) (L M : List (Int × Int)) : addPs S (L ++ M) = addPs (addPs S L) M := by
  funext x y
  unfold addPs
  rw [List.any_append]
  cases S x y <;> cases decide (x ≠ y) <;> simp
theorem addPs_self (S : Int → Int → Bool) (a : Int) : addPs S [(a, a)] = S := by
  funext x y
  unfold addPs
  by_cases h : x = y
  · simp [h]
  · have h1 : ¬ (a = x ∧ a = y) := fun ⟨e1, e2⟩ => h (e1.symm.trans e2)
    have h2 : ¬ (a = y ∧ a = x) := fun ⟨e1, e2⟩ => h (e2.symm.trans e1)
    simp [h1, h2]
theorem addPs_row (S : Int → Int → Bool) {a b : Int} (h : a ≠ b) (x : Int) : addPs S [(a, b)] x = if x = a then orS (S x) [b] else if x = b then orS (S x) [a] else S x := by
  funext y
  unfold addPs orS
  split
  · rename_i e
    subst e
    by_cases hy : y = b
    · subst hy; simp [h]
    · simp [hy]; omega
  · rename_i e
    split
    · rename_i e2
      subst e2
      by_cases hy : y = a
      · subst hy; simp [e]
      · simp [hy]; omega
    · rename_i e2
      simp; omega
/-- clash.Of's sets: the slice lies in block bs, its elements in block gs, the maps in the blocks ms. -/
structure SetsNow (W : World) (bs gs n : Nat) (ms : List Nat) (S : Int → Int → Bool) : Prop where
  box : Blk W bs 59 #[.slice (some ⟨gs, 0, none⟩) n n]
  row : Blk W gs 61 (ms.map fun b => Value.map (some b)).toArray
  len : ms.length = n
  nd : ms.Nodup
  sets : ∀ (r b : Nat), ms[r]? = some b → RegSet W b n (S r)
section
variable {W W' : World} {bs gs n : Nat} {ms : List Nat} {S T : Int → Int → Bool}
theorem SetsNow.congr (h : SetsNow W bs gs n ms S) (e : ∀ x y, S x y = T x y) : SetsNow W bs gs n ms T := (funext fun x => funext fun y => e x y : S = T) ▸ h
theorem SetsNow.maps {M : Nat → Prop} (h : SetsNow W bs gs n ms S) (hm : MapsOnly M W W') (hM : ∀ b ∈ ms, ¬ M b) : SetsNow W' bs gs n ms S :=
  ⟨hm.blk h.box, hm.blk h.row, h.len, h.nd, fun r b hb => hm.regs (h.sets r b hb) (hM b (List.mem_of_getElem? hb))⟩
theorem SetsNow.cell (h : SetsNow W bs gs n ms S) {r b : Nat} (hb : ms[r]? = some b) : W.cell? ⟨gs, r, none⟩ = some (.map (some b)) := by
  have h1 := h.row.cell r
  rw [h1]
  simp [hb]
end
theorem zeroUnit (u : World) : (zeroValue 62).run Tryz.prog u = .ok (.agg #[]) u := by kernel_rfl
set_option maxRecDepth 100000 in
set_option maxHeartbeats 4000000 in
theorem OfClash_any (bs gs n : Nat) (ms : List Nat) (S : Int → Int → Bool) (a b : Int) (W : World) (hn : n ≤ 100) (hS : SetsNow W bs gs n ms S) (ha : 0 ≤ a ∧ a < (n : Int)) (hb : 0 ≤ b ∧ b < (n : Int)) :
    Calls Tryz.prog 28 #[.int .i64 a, .int .i64 b, .pointer (some ⟨bs, 0, none⟩)] W fun e W' => e = .returned (.tuple #[]) ∧ SetsNow W' bs gs n ms (addPs S [(a, b)]) ∧ MapsOnly (fun k => k ∈ ms) W W' := by
  by_cases hab : a = b
  · subst hab
    have HS : Hid (SetsNow W bs gs n ms (addPs S [(a, a)])) := Lib.hid (by rw [addPs_self]; exact hS)
    clear hS
    go_enter Tryz.func28, Tryz.ntmps28
    go_wp2_with fail
    go_end0
    exact ⟨rfl, HS.out, MapsOnly.refl _ _⟩
  · have habb : (a != b) = true := by simpa using hab
    have ha0 := ha.1
    have ha1 := ha.2
    have hb0 := hb.1
    have hb1 := hb.2
    have Hn : Hid (n ≤ 100) := Lib.hid hn
    have Hlen := hS.len
    obtain ⟨x, rfl⟩ : ∃ x : Nat, a = (x : Int) := ⟨a.toNat, by omega⟩
    obtain ⟨y, rfl⟩ : ∃ y : Nat, b = (y : Int) := ⟨b.toNat, by omega⟩
    have hxn : x < ms.length := by omega
    have hyn : y < ms.length := by omega
    obtain ⟨mx, hmx⟩ : ∃ mx, ms[x]? = some mx := ⟨_, List.getElem?_eq_getElem hxn⟩
    obtain ⟨my, hmy⟩ : ∃ my, ms[y]? = some my := ⟨_, List.getElem?_eq_getElem hyn⟩
    have hxy : x ≠ y := fun e => hab (by rw [e])
    have hmxy : mx ≠ my := fun e => hxy (nodup_at hS.nd hmx (e ▸ hmy))
    have hd : SetsNow W.drew bs gs n ms S := ⟨hS.box, hS.row, hS.len, hS.nd, hS.sets⟩
    obtain ⟨⟨Dx, hox, hDx⟩, hSx⟩ := hd.sets x mx hmx
    have hszx := regset_size hox hDx hSx
    obtain ⟨v1, st1, w1, w2, hr1, hr2, ht1, ho2, ht2⟩ := entry_store hox regKeyed Tryz.underlying61 zeroUnit (by unfold maxLen; omega) (regKey (wf_reg hn hb)) (val := .agg #[]) unitElem_mk
    have hm1 : MapsOnly (fun k => k ∈ ms) W.drew w1 := MapsOnly.of_turned ht1 (List.mem_of_getElem? hmx)
    have hm2 : MapsOnly (fun k => k ∈ ms) W.drew w2 := MapsOnly.of_turned ht2 (List.mem_of_getElem? hmx)
    have hs2 : RegSet w2 mx n (orS (S x) [(y : Int)]) := RegSet.put_ hn hDx hSx hox.isMap hb ho2
    have hy2 : RegSet w2 my n (S y) := (MapsOnly.of_turned (M := fun k => k = mx) ht2 rfl).regs (hd.sets y my hmy) (fun e => hmxy e.symm)
    obtain ⟨⟨Dy, hoy, hDy⟩, hSy⟩ := hy2
    have hszy := regset_size hoy hDy hSy
    obtain ⟨v3, st3, w3, w4, hr3, hr4, ht3, ho4, ht4⟩ := entry_store hoy regKeyed Tryz.underlying61 zeroUnit (by unfold maxLen; omega) (regKey (wf_reg hn ha)) (val := .agg #[]) unitElem_mk
    have hm3 : MapsOnly (fun k => k ∈ ms) W.drew w3 := hm2.trans (MapsOnly.of_turned ht3 (List.mem_of_getElem? hmy))
    have hm24 : MapsOnly (fun k => k = my) w2 w4 := MapsOnly.of_turned ht4 rfl
    have hm4 : MapsOnly (fun k => k ∈ ms) W.drew w4 := hm2.trans (MapsOnly.of_turned ht4 (List.mem_of_getElem? hmy))
    have hs4 : RegSet w4 my n (orS (S y) [(x : Int)]) := RegSet.put_ hn hDy hSy hoy.isMap ha ho4
    have HF : Hid (SetsNow w4 bs gs n ms (addPs S [((x : Int), (y : Int))]) ∧ MapsOnly (fun k => k ∈ ms) W w4) := Lib.hid (by
      refine ⟨⟨hm4.blk hd.box, hm4.blk hd.row, hd.len, hd.nd, fun r b hrb => ?_⟩, ⟨hm4.os, hm4.tape, hm4.output, hm4.size, hm4.block, hm4.cells⟩⟩
      rw [addPs_row S hab]
      by_cases hrx : r = x
      · subst hrx
        obtain rfl : mx = b := Option.some.inj (hmx.symm.trans hrb)
        rw [if_pos rfl]
        exact hm24.regs hs2 hmxy
      · rw [if_neg (by omega)]
        by_cases hry : r = y
        · subst hry
          obtain rfl : my = b := Option.some.inj (hmy.symm.trans hrb)
          rw [if_pos rfl]
          exact hs4
        · rw [if_neg (by omega)]
          have hne : ∀ (q c : Nat), ms[q]? = some c → r ≠ q → b ≠ c := fun q c hq hrq e => hrq (nodup_at hS.nd hrb (e ▸ hq))
          exact hm24.regs ((MapsOnly.of_turned (M := fun k => k = mx) ht2 rfl).regs (hd.sets r b hrb) (hne x mx hmx hrx)) (hne y my hmy hry))
    have HC : Hid (∀ w' ∈ [W.drew, w1, w2, w3, w4], w'.cell? ⟨bs, 0, none⟩ = some (.slice (some ⟨gs, 0, none⟩) n n) ∧ w'.cell? ⟨gs, x, none⟩ = some (.map (some mx)) ∧ w'.cell? ⟨gs, y, none⟩ = some (.map (some my))) := Lib.hid (by
      intro w' hw'
      have hm : MapsOnly (fun k => k ∈ ms) W.drew w' := by
        simp only [List.mem_cons, List.not_mem_nil, or_false] at hw'
        rcases hw' with rfl | rfl | rfl | rfl | rfl
        · exact MapsOnly.refl _ _
        · exact hm1
        · exact hm2
        · exact hm3
        · exact hm4
      exact ⟨hm.cell (hd.box.cell 0), hm.cell (hd.cell hmx), hm.cell (hd.cell hmy)⟩)
    have Hr1 := Lib.hid hr1
    have Hr2 := Lib.hid hr2
    have Hr3 := Lib.hid hr3
    have Hr4 := Lib.hid hr4
    clear hS hd hm1 hm2 hm3 hm4 hm24 hs2 hs4 hr1 hr2 hr3 hr4 ht1 ht2 ht3 ht4 ho2 ho4 hox hoy hDx hSx hDy hSy hszx hszy hmx hmy hxn hyn ha hb hn hab
    go_enter Tryz.func28, Tryz.ntmps28
    go_upto_region 1 with fail
    refine wp_region_lex (Chain [12, 14, 15, 17] [W.drew, w1, w2, w3, w4]) (by kernel_rfl) (by kernel_rfl) (Chain.start rfl) ?_
    iterate 12
      apply wpLex_step
      · rfl
      · intro L w' hC hL hd
        clear hd
        have F := HC.out w' hC.mem
        have HC1 := Lib.hid hC
        clear hC
        go_simp
        exact ⟨HC1.out.keep _ (by decide), rfl⟩
      simp only [Act.put, List.setIfInBounds_toArray, List.set_cons_succ, List.set_cons_zero, Nat.reduceAdd]
    apply wpLex_step
    · rfl
    · intro L w' hC hL hd
      obtain ⟨rfl, hC2⟩ := hC.at_ (j := 0) rfl hL (by decide) (fun k' h => absurd rfl h) rfl rfl
      have hr := Hr1.out
      have HC1 := Lib.hid hC2
      clear hC hC2 hd hL
      go_simp
      exact ⟨HC1.out, rfl⟩
    simp only [Act.put, List.setIfInBounds_toArray, List.set_cons_succ, List.set_cons_zero, Nat.reduceAdd]
    apply wpLex_step
    · rfl
    · intro L w' hC hL hd
      clear hd
      have HC1 := Lib.hid hC
      clear hC
      go_simp
      exact ⟨HC1.out.keep _ (by decide), rfl⟩
    simp only [Act.put, List.setIfInBounds_toArray, List.set_cons_succ, List.set_cons_zero, Nat.reduceAdd]
    apply wpLex_step
    · rfl
    · intro L w' hC hL hd
      obtain ⟨rfl, hC2⟩ := hC.at_ (j := 1) rfl hL (by decide) (fun k' _ h => by cases h; exact hd ⟨12, .chain⟩ (by simp) rfl) rfl rfl
      have hr := Hr2.out
      have HC1 := Lib.hid hC2
      clear hC hC2 hd hL
      go_simp
      exact ⟨HC1.out, rfl⟩
    simp only [Act.put, Nat.reduceAdd]
    apply wpLex_step
    · rfl
    · intro L w' hC hL hd
      obtain ⟨rfl, hC2⟩ := hC.at_ (j := 2) rfl hL (by decide) (fun k' _ h => by cases h; exact hd ⟨14, .chain⟩ (by simp) rfl) rfl rfl
      have hr := Hr3.out
      have HC1 := Lib.hid hC2
      clear hC hC2 hd hL
      go_simp
      exact ⟨HC1.out, rfl⟩
    simp only [Act.put, List.setIfInBounds_toArray, List.set_cons_succ, List.set_cons_zero, Nat.reduceAdd]
    apply wpLex_step
    · rfl
    · intro L w' hC hL hd
      clear hd
      have HC1 := Lib.hid hC
      clear hC
      go_simp
      exact ⟨HC1.out.keep _ (by decide), rfl⟩
    simp only [Act.put, List.setIfInBounds_toArray, List.set_cons_succ, List.set_cons_zero, Nat.reduceAdd]
    apply wpLex_step
    · rfl
    · intro L w' hC hL hd
      obtain ⟨rfl, hC2⟩ := hC.at_ (j := 3) rfl hL (by decide) (fun k' _ h => by cases h; exact hd ⟨15, .chain⟩ (by simp) rfl) rfl rfl
      have hr := Hr4.out
      have HC1 := Lib.hid hC2
      clear hC hC2 hd hL
      go_simp
      exact ⟨HC1.out, rfl⟩
    simp only [Act.put, Nat.reduceAdd]
    apply wpLex_nil
    intro L w' hC hd
    obtain rfl := hC.end_ (fun k hk => hd k (by simp only [List.mem_cons, List.not_mem_nil, or_false] at hk; simp only [List.length_cons, List.length_nil]; omega)) rfl rfl
    clear hC hd
    go_wp2_with fail
    go_end0
    exact ⟨rfl, HF.out⟩
end Go.Proofs.YtiknhfbkphoceaaGreatDoor
namespace Go.Proofs.YtiknhfbkphoceaaGreatDoor
open Go.RowKit

theorem eqVal (r q : Bool) (a b : Int) (w : World) : (Op.equalIn 10000 66 (.agg #[.bool r, .int .i64 a]) (.agg #[.bool q, .int .i64 b])).run Tryz.prog w = .ok (r == q && a == b) w := by
  have hS : Tryz.prog.underlying 66 = some (.struct (Tryz.prog.fieldsOf 66)) := by kernel_rfl
  rw [show (10000 : Nat) = 9999 + 1 from rfl, run_equalIn_agg w 9999 66 _ _ hS (by kernel_rfl)]
  simp only [Program.fieldsOf, Tryz.underlying66]
  have u3 := Tryz.underlying3
  have a3 := Tryz.isAgg3
  have z3 := Tryz.sizeOf3
  have u4 := Tryz.underlying4
  have a4 := Tryz.isAgg4
  have z4 := Tryz.sizeOf4
  go_simp
  by_cases h1 : a = b <;> cases r <;> cases q <;> simp [h1]
/-- Do an instruction's register and another one clash, if that is live behind it? -/
def asksC (x : InsU) (r : Int) : Bool := !(decide (x.op = 1) && (x.a.reg && decide (x.a.n = r)))
def evC (e : InsU × (Int → Bool)) (a b : Int) : Bool := decide (0 ≤ e.1.dst) && (decide (e.1.dst = a) && (e.2 b && asksC e.1 b))
/-- What stood, and what instructions put to it. -/
def clashS (S0 : Int → Int → Bool) (s : List (InsU × (Int → Bool))) (a b : Int) : Bool := S0 a b || (decide (a ≠ b) && s.any fun e => evC e a b || evC e b a)
theorem clashS_nil (S0 : Int → Int → Bool) (a b : Int) : clashS S0 [] a b = S0 a b := by simp [clashS]
theorem clashS_snoc (S0 : Int → Int → Bool) (s : List (InsU × (Int → Bool))) (e : InsU × (Int → Bool)) (a b : Int) : clashS S0 (s ++ [e]) a b = (clashS S0 s a b || (decide (a ≠ b) && (evC e a b || evC e b a))) := by
  unfold clashS
  rw [List.any_append]
  cases S0 a b <;> cases decide (a ≠ b) <;> simp
def pairsC (x : InsU) (L : List Int) : List (Int × Int) := (L.filter (asksC x)).map fun r => (x.dst, r)
theorem pairsC_snoc (x : InsU) (L : List Int) (r : Int) : pairsC x (L ++ [r]) = if asksC x r = true then pairsC x L ++ [(x.dst, r)] else pairsC x L := by
  unfold pairsC
  rw [List.filter_append]
  by_cases h : asksC x r = true
  · simp [h]
  · simp [h]
theorem pairs_all {S0 : Int → Int → Bool} {s : List (InsU × (Int → Bool))} {x : InsU} {T : Int → Bool} {L : List Int} (hd : 0 ≤ x.dst) (hL : ∀ r, r ∈ L ↔ T r = true) (a b : Int) : addPs (clashS S0 s) (pairsC x L) a b = clashS S0 (s ++ [(x, T)]) a b := by
  rw [clashS_snoc]
  unfold addPs
  congr 2
  rw [Bool.eq_iff_iff]
  unfold pairsC evC
  simp only [List.any_eq_true, List.mem_map, List.mem_filter, Bool.or_eq_true, Bool.and_eq_true, decide_eq_true_eq, hL]
  constructor
  · rintro ⟨p, ⟨r, ⟨h1, h2⟩, rfl⟩, ⟨h3, h4⟩ | ⟨h3, h4⟩⟩
    · subst h3; subst h4; exact .inl ⟨hd, rfl, h1, h2⟩
    · subst h3; subst h4; exact .inr ⟨hd, rfl, h1, h2⟩
  · rintro (⟨_, h2, h3, h4⟩ | ⟨_, h2, h3, h4⟩)
    · exact ⟨_, ⟨b, ⟨h3, h4⟩, rfl⟩, .inl ⟨h2, rfl⟩⟩
    · exact ⟨_, ⟨a, ⟨h3, h4⟩, rfl⟩, .inr ⟨h2, rfl⟩⟩
theorem quiet_all {S0 : Int → Int → Bool} {s : List (InsU × (Int → Bool))} {x : InsU} {T : Int → Bool} (hd : ¬ 0 ≤ x.dst) (a b : Int) : clashS S0 s a b = clashS S0 (s ++ [(x, T)]) a b := by
  rw [clashS_snoc]
  unfold evC
  simp [hd]
/-- What clash.Of keeps while it goes back. -/
structure OfNow (bc bs gs n : Nat) (ms : List Nat) (S0 : Int → Int → Bool) (s : List (InsU × (Int → Bool))) (W : World) : Prop where
  fn : Blk W bc 63 #[.func (.func 28) #[] #[.pointer (some ⟨bs, 0, none⟩)]]
  sets : SetsNow W bs gs n ms (clashS S0 s)
theorem Ranging.stay {wr w' : World} {base b r : Nat} {D : DataW Unit} {L : List Int} {cnt : Nat} (h : Ranging wr base b r D L cnt) (hb : w'.heap[b]? = wr.heap[b]?) (hr : w'.heap[r]? = wr.heap[r]?) : Ranging w' base b r D L cnt := by
  obtain ⟨h0, left, ⟨es, clock, since, seen, c0, h1, h2, h3, h4, h5, h6⟩, h7⟩ := h
  exact ⟨h0, left, ⟨es, clock, since, seen, c0, hb.trans h1, h2, h3, h4, hr.trans h5, h6⟩, h7⟩
theorem Ranging.lt {wr : World} {base b r : Nat} {D : DataW Unit} {L : List Int} {cnt : Nat} (h : Ranging wr base b r D L cnt) : b < wr.heap.size ∧ r < wr.heap.size := by
  obtain ⟨_, left, ⟨es, clock, since, seen, c0, h1, _, _, _, h5, _⟩, _⟩ := h
  exact ⟨(Array.getElem?_eq_some_iff.1 h1).1, (Array.getElem?_eq_some_iff.1 h5).1⟩
theorem SetsNow.lt {W : World} {bs gs n : Nat} {ms : List Nat} {S : Int → Int → Bool} (h : SetsNow W bs gs n ms S) {b : Nat} (hb : b ∈ ms) : b < W.heap.size := by
  obtain ⟨r, hr⟩ := List.mem_iff_getElem?.1 hb
  exact (h.sets r b hr).lt
set_option maxRecDepth 100000 in
set_option maxHeartbeats 4000000 in
theorem OfDo_any (bc bs gs n : Nat) (ms : List Nat) (S0 : Int → Int → Bool) (s : List (InsU × (Int → Bool))) (x : InsU) (T : Int → Bool) (W : World) (bn : Nat) (aA : Option Addr) (ac : Nat) (hn : n ≤ 100) (hx1 : x.dst < (n : Int)) (hJ : OfNow bc bs gs n ms S0 s W) (hne : bn ∉ ms) (hT : RegSet W bn n T) :
    Calls Tryz.prog 30 (#[.agg (insC2 x (.slice aA x.args.length ac)), .map (some bn)] ++ #[.pointer (some ⟨bc, 0, none⟩)]) W fun e W' => e = .returned (.tuple #[]) ∧ OfNow bc bs gs n ms S0 (s ++ [(x, T)]) W' ∧ MapsOnly (fun k => k ∈ ms) W W' := by
  obtain ⟨op, dst, ⟨ar, an⟩, ⟨br, bm⟩, fn, args⟩ := x
  have HJ := Lib.hid hJ
  have HT := Lib.hid hT
  have hbx := hJ.fn.lt
  have hbnl := hT.lt
  have HB0 : Hid (Below W.heap.size W (W.alloc (.cells #[.int .i64 op, .int .i64 dst, .bool ar, .int .i64 an, .bool br, .int .i64 bm, .int .i64 fn, .slice aA args.length ac] 69))) := Lib.hid ((Below.refl _ _).alloc (Nat.le_refl _) _)
  have HX0 : Hid (Blk (W.alloc (.cells #[.int .i64 op, .int .i64 dst, .bool ar, .int .i64 an, .bool br, .int .i64 bm, .int .i64 fn, .slice aA args.length ac] 69)) W.heap.size 69 #[.int .i64 op, .int .i64 dst, .bool ar, .int .i64 an, .bool br, .int .i64 bm, .int .i64 fn, .slice aA args.length ac]) := Lib.hid (Blk.new _ _ _)
  have Hms : Hid (∀ k ∈ ms, k < W.heap.size) := Lib.hid (fun k hk => hJ.sets.lt hk)
  unfold insC2
  simp only [List.append_toArray, List.cons_append, List.nil_append]
  clear hJ hT
  go_enter Tryz.func30, Tryz.ntmps30
  go_upto_region 1 with fail
  generalize W.alloc (.cells #[.int .i64 op, .int .i64 dst, .bool ar, .int .i64 an, .bool br, .int .i64 bm, .int .i64 fn, .slice aA args.length ac] 69) = W0 at *
  have x1 := HX0.out.cell 1
  by_cases hdst : dst < 0
  · have HE : Hid (∀ a b, clashS S0 s a b = clashS S0 (s ++ [(⟨op, dst, ⟨ar, an⟩, ⟨br, bm⟩, fn, args⟩, T)]) a b) := Lib.hid (quiet_all (x := ⟨op, dst, ⟨ar, an⟩, ⟨br, bm⟩, fn, args⟩) (by simp only; omega))
    go_wp2_with fail
    refine bodyPost_ret (results_none rfl _ _ _) rfl ?_
    have hmo : MapsOnly (fun k => k ∈ ms) W W0 := MapsOnly.of_below _ HB0.out
    exact ⟨rfl, ⟨hmo.blk HJ.out.fn, (HJ.out.sets.maps (MapsOnly.of_below (fun _ => False) HB0.out) (fun _ _ h => h)).congr HE.out⟩, hmo⟩
  · have hd0 : 0 ≤ dst := by omega
    have HE : Hid (∀ L : List Int, (∀ r, r ∈ L ↔ T r = true) → ∀ a b, addPs (clashS S0 s) (pairsC ⟨op, dst, ⟨ar, an⟩, ⟨br, bm⟩, fn, args⟩ L) a b = clashS S0 (s ++ [(⟨op, dst, ⟨ar, an⟩, ⟨br, bm⟩, fn, args⟩, T)]) a b) := Lib.hid (fun L hL => pairs_all hd0 hL)
    obtain ⟨⟨D, hown, hD⟩, hS⟩ := HT.out.below HB0.out hbnl
    have HO := Lib.hid hown
    have HD := Lib.hid (And.intro hD hS)
    clear hown hD hS
    go_wp2_with (at_range; refine wpList_range_own _ rfl _ 60 rfl 3 62 regKeyed Tryz.underlying60 _ bn (Maps.size D) D rfl HO.out ?_; intro w1 hrg1 hg1 hs1)
    have HR1 : Hid (Ranging w1 W0.heap.size bn W0.heap.size D [] (Maps.size D)) := Lib.hid (Ranging.start (Nat.le_refl _) hrg1)
    have hW0 : W.heap.size < W0.heap.size := HX0.out.lt
    have HB1 : Hid (Below W0.heap.size W0 w1) := Lib.hid (grown_below hg1 (Nat.le_refl _) (fun k e => by cases e))
    have hsz := regset_size HO.out HD.out.1 HD.out.2
    have hbn0 : bn < W0.heap.size := by omega
    have Hm0 : Hid (∀ k ∈ ms, k < W0.heap.size) := Lib.hid (fun k hk => Nat.lt_trans (Hms.out k hk) hW0)
    have HS1 : Hid (SetsNow w1 bs gs n ms (addPs (clashS S0 s) (pairsC ⟨op, dst, ⟨ar, an⟩, ⟨br, bm⟩, fn, args⟩ []))) := Lib.hid (((HJ.out.sets.maps (MapsOnly.of_below (fun _ => False) HB0.out) (fun _ _ h => h)).maps (MapsOnly.of_below (fun _ => False) HB1.out) (fun _ _ h => h)).congr (fun a b => by rw [show pairsC ⟨op, dst, ⟨ar, an⟩, ⟨br, bm⟩, fn, args⟩ [] = [] from rfl, addPs_nil]))
    have HM1 : Hid (MapsOnly (fun k => k ∈ ms ∨ W0.heap.size ≤ k) W0 w1) := Lib.hid (MapsOnly.of_below _ HB1.out)
    have Hne : Hid (bn ∉ ms) := Lib.hid hne
    clear hrg1 hg1 hs1 x1 hne
    go_loopg [] (Maps.size D) (fun gk wr => ∃ L, Hid (Ranging wr W0.heap.size bn W0.heap.size D L gk) ∧ Hid (SetsNow wr bs gs n ms (addPs (clashS S0 s) (pairsC ⟨op, dst, ⟨ar, an⟩, ⟨br, bm⟩, fn, args⟩ L))) ∧ Hid (MapsOnly (fun k => k ∈ ms ∨ W0.heap.size ≤ k) W0 wr))
    case atStart => exact ⟨[], HR1, HS1, HM1⟩
    case round =>
      obtain ⟨L, HR, HS, HM⟩ := hrel
      clear HR1 HS1 HM1
      obtain ⟨hge, left, hrg, hl1, hl2, hl3, hl4⟩ := HR.out
      have HL := Lib.hid (And.intro hl1 (And.intro hl2 (And.intro hl3 hl4)))
      have Hrg := Lib.hid hrg
      clear hl1 hl2 hl3 hl4 hrg hge
      go_wp2_with (at_next; refine wpList_next_ranges _ rfl _ rfl 3 regKeyed _ (Value.int .i64) (fun _ : Unit => .agg #[]) inv_key inv_unit bn W0.heap.size (Maps.size D) D left gk rfl Hrg.out ?_ ?_)
      · intro _ hl0
        go_wp2_with fail
        go_end0
        have hfin : MapsOnly (fun k => k ∈ ms ∨ W0.heap.size ≤ k) W wr := (MapsOnly.of_below _ HB0.out).trans HM.out
        exact ⟨rfl, ⟨hfin.blk HJ.out.fn, HS.out.congr (HE.out L (ranging_members hn HD.out.1 HD.out.2 hl0 HL.out.2.2.2))⟩, ⟨hfin.os, hfin.tape, hfin.output, hfin.size, fun k hk hnk => hfin.block k hk (fun e => e.elim hnk (fun e => by omega)), hfin.cells⟩⟩
      · intro x c kl y w2 cnt2 hkey hlx hy hat hrg2 hlt2 hg2 hs2 hen
        obtain ⟨x', ex, rfl, hwx⟩ := Maps.keyOf_int_inv Tryz.underlying3 hkey
        cases ex
        have HR2 : Hid (Ranging w2 W0.heap.size bn W0.heap.size D (L ++ [x]) cnt2) := Lib.hid (ranging_more (Nat.le_refl _) HL.out.1 HL.out.2.1 HL.out.2.2.1 HL.out.2.2.2 hwx hlx hlt2 hrg2)
        have hbk : ∀ (k : Nat) (o : Obj), wr.heap[k]? = some o → o.isCells = true → w2.heap[k]? = some o := fun k o hk ho => (hg2.block k (Array.getElem?_eq_some_iff.1 hk).1 (fun e => by
          obtain ⟨_, left, ⟨es, clock, since, seen, c0, _, _, _, _, h5, _⟩, _⟩ := HR.out
          rw [Option.some.inj e] at hk
          rw [hk] at h5
          cases h5
          cases ho)).trans hk
        have HM22 : Hid (MapsOnly (fun k => k = W0.heap.size) wr w2) := Lib.hid ⟨hg2.os, hg2.tape, hg2.output, hg2.size, fun k hk hnk => hg2.block k hk (fun e => hnk (Option.some.inj e)), hbk⟩
        have HS2 := Lib.hid (HS.out.maps HM22.out (fun b hb e => by have := Hm0.out b hb; omega))
        have HM2 := Lib.hid (HM.out.trans (HM22.out.wider (fun k h => .inr (by omega))))
        have hxT : 0 ≤ x ∧ x < (n : Int) := HD.out.2 x (by rw [← HD.out.1 x hwx]; exact HL.out.2.2.1 _ hlx)
        have x0 := HM2.out.cell (HX0.out.cell 0)
        have x1 := HM2.out.cell (HX0.out.cell 1)
        have x2 := HM2.out.cell (HX0.out.cell 2)
        have x3 := HM2.out.cell (HX0.out.cell 3)
        have f0 := HM2.out.cell (((MapsOnly.of_below (fun _ => False) HB0.out).blk HJ.out.fn).cell 0)
        have heq := fun W => eqVal ar true an x W
        clear hkey hlx hy hat hrg2 hg2 hs2 hbk
        have HCl := Lib.hid (OfClash_any bs gs n ms _ dst x w2 hn HS2.out ⟨hd0, hx1⟩ hxT)
        clear hxT
        by_cases hop : op = 1
        · subst hop
          by_cases hv : ar = true ∧ an = x
          · obtain ⟨rfl, rfl⟩ := hv
            have HS3 : Hid (SetsNow w2 bs gs n ms (addPs (clashS S0 s) (pairsC ⟨1, dst, ⟨true, an⟩, ⟨br, bm⟩, fn, args⟩ (L ++ [an])))) := Lib.hid (by rw [pairsC_snoc, if_neg (by simp [asksC])]; exact HS2.out)
            go_wp2_with fail
            go_roundg cnt2
            case measure => omega
            case rel => exact ⟨L ++ [an], HR2, HS3, HM2⟩
          · have hq : (ar == true && an == x) = false := by
              cases ar
              · rfl
              · simp only [true_and] at hv
                simp [hv]
            have hask : asksC ⟨1, dst, ⟨ar, an⟩, ⟨br, bm⟩, fn, args⟩ x = true := by
              unfold asksC
              cases ar
              · simp
              · simp only [true_and] at hv
                simp [hv]
            rw [hq] at heq
            clear hv hq
            go_wp2_with fail
            refine HCl.out.mono ?_
            rintro e w3 ⟨rfl, hs3, hm3⟩
            have HS3 : Hid (SetsNow w3 bs gs n ms (addPs (clashS S0 s) (pairsC ⟨1, dst, ⟨ar, an⟩, ⟨br, bm⟩, fn, args⟩ (L ++ [x])))) := Lib.hid (by rw [pairsC_snoc, if_pos hask, addPs_app]; exact hs3)
            have HR3 : Hid (Ranging w3 W0.heap.size bn W0.heap.size D (L ++ [x]) cnt2) := Lib.hid (HR2.out.stay (hm3.block bn HR2.out.lt.1 Hne.out) (hm3.block _ HR2.out.lt.2 (fun h => by have := Hm0.out _ h; omega)))
            have HM3 : Hid (MapsOnly (fun k => k ∈ ms ∨ W0.heap.size ≤ k) W0 w3) := Lib.hid (HM2.out.trans (hm3.wider fun k h => .inl h))
            clear hs3 hm3
            go_wp2_with fail
            go_roundg cnt2
            case measure => omega
            case rel => exact ⟨L ++ [x], HR3, HS3, HM3⟩
        · have hopb : (op != 1) = true := by simpa using hop
          have hask : asksC ⟨op, dst, ⟨ar, an⟩, ⟨br, bm⟩, fn, args⟩ x = true := by
            unfold asksC
            simp [hop]
          clear hop
          go_wp2_with fail
          refine HCl.out.mono ?_
          rintro e w3 ⟨rfl, hs3, hm3⟩
          have HS3 : Hid (SetsNow w3 bs gs n ms (addPs (clashS S0 s) (pairsC ⟨op, dst, ⟨ar, an⟩, ⟨br, bm⟩, fn, args⟩ (L ++ [x])))) := Lib.hid (by rw [pairsC_snoc, if_pos hask, addPs_app]; exact hs3)
          have HR3 : Hid (Ranging w3 W0.heap.size bn W0.heap.size D (L ++ [x]) cnt2) := Lib.hid (HR2.out.stay (hm3.block bn HR2.out.lt.1 Hne.out) (hm3.block _ HR2.out.lt.2 (fun h => by have := Hm0.out _ h; omega)))
          have HM3 : Hid (MapsOnly (fun k => k ∈ ms ∨ W0.heap.size ≤ k) W0 w3) := Lib.hid (HM2.out.trans (hm3.wider fun k h => .inl h))
          clear hs3 hm3
          go_wp2_with fail
          go_roundg cnt2
          case measure => omega
          case rel => exact ⟨L ++ [x], HR3, HS3, HM3⟩
end Go.Proofs.YtiknhfbkphoceaaGreatDoor
