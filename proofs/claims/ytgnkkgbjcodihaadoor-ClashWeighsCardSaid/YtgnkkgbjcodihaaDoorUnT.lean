/-
  core.Fault; the first function, the first block of which something holds.
  Conditions: as the theorems say.
-/
import Derived.Test.YtgnkkgbjcodihaaDoorUnL
namespace Go.Proofs.YtgnkkgbjcodihaaDoor
open Go.RowKit

set_option maxRecDepth 100000 in
theorem Fault_any (c a : Int) (w : World) : Calls Tryd.prog 45 #[.int .i64 c, .int .i64 a] w fun e w' => e = .returned (.agg #[.int .i64 c, .int .i64 a]) ∧ Below w.heap.size w w' := by
  go_enter Tryd.func45, Tryd.ntmps45
  go_wp2_with fail
  exact end_cell rfl rfl (Blk.new w _ _) Tryd.underlying28 rfl (by kernel_rfl) rfl ⟨rfl, (Below.refl _ _).alloc (Nat.le_refl _) _⟩
set_option maxRecDepth 100000 in
theorem isMain_any (nm : ByteArray) (ps regs : Int) (bA : Option Addr) (bl bc : Nat) (w : World) : Calls Tryd.prog 61 #[.agg #[.string nm, .int .i64 ps, .int .i64 regs, .slice bA bl bc]] w fun e w' => e = .returned (.bool (mainU nm)) ∧ Below w.heap.size w w' := by
  go_enter Tryd.func61, Tryd.ntmps61
  go_wp2_with fail
  go_ret
  exact ⟨ret_bool (by unfold mainU; rfl), (Below.refl _ _).alloc (Nat.le_refl _) _⟩
set_option maxRecDepth 100000 in
theorem hasPhis_any (pA lA tA : Option Addr) (pl pc ll lc tl tc : Nat) (kind : Int) (onr : Bool) (onn : Int) (w : World) : Calls Tryd.prog 53 #[.agg #[.slice pA pl pc, .slice lA ll lc, .int .i64 kind, .bool onr, .int .i64 onn, .slice tA tl tc]] w fun e w' => e = .returned (.bool (decide (0 < pl))) ∧ Below w.heap.size w w' := by
  go_enter Tryd.func53, Tryd.ntmps53
  go_wp2_with fail
  go_ret
  exact ⟨ret_bool (by simp), (Below.refl _ _).alloc (Nat.le_refl _) _⟩
set_option maxRecDepth 100000 in
set_option maxHeartbeats 1000000 in
theorem IndexF_any (F : FuncId) (v : Value) (gs : List FunU) (p : FunU → Bool) (w : World) (hv : FunsAt w w.heap.size v gs) (hc : ∀ (a : Array Value) (W : World), (callFunc F a).run Tryd.prog W = .ok (.enter F a) W)
    (HF : ∀ (us : List Value) (g : FunU) (W : World), g ∈ gs → Below w.heap.size w W → FunP w w.heap.size us g → Calls Tryd.prog F #[.agg us.toArray] W fun e W' => e = .returned (.bool (p g)) ∧ Below W.heap.size W W') :
    Calls Tryd.prog 60 #[v, .func (.func F) #[] #[]] w fun e w' => e = .returned (.int .i64 (firstS p gs)) ∧ Below w.heap.size w w' := by
  have HV := Lib.hid hv
  have Hf := Lib.hid HF
  obtain ⟨A, c, hvv, h1, h2⟩ := SlAt.form hv
  subst hvv
  obtain ⟨len, hlen⟩ : ∃ len, gs.length = len := ⟨_, rfl⟩
  have HL := Lib.hid hlen
  rw [hlen] at h1 HV ⊢
  have h63 : len ≤ 9223372036854775807 := by omega
  clear hlen HF h2 hv
  generalize hres : firstS p gs = res at *
  have Hres := Lib.hid hres
  clear hres
  go_enter Tryd.func60, Tryd.ntmps60
  go_wp2_with fail
  go_loopw [8] (fun i wr => ∃ k : Nat, k ≤ len ∧ i = .int .i64 k ∧ Hid (∀ (j : Nat) (g : FunU), j < k → gs[j]? = some g → p g = false) ∧ Hid (Below w.heap.size w wr)) (fun i _ => len - (intOf i).toNat)
  case atStart => exact ⟨0, Nat.zero_le _, rfl, Lib.hid (fun j _ h => absurd h (Nat.not_lt_zero j)), Lib.hid (Below.refl _ _)⟩
  case round =>
    obtain ⟨k, hk, rfl, HN, HB⟩ := hrel
    by_cases hlt : k < len
    · obtain ⟨g, hg⟩ : ∃ g, gs[k]? = some g := ⟨gs[k]'(by rw [HL.out]; exact hlt), List.getElem?_eq_getElem _⟩
      obtain ⟨b, off, hA, hbw, us, hus, hcell⟩ := SlAt.at HV.out hg
      have Hc := Hf.out us g wr (List.mem_of_getElem? hg) HB.out hus
      obtain ⟨bv, rfl, hb⟩ := hus
      obtain ⟨bA, bc, rfl, _, _⟩ := SlAt.form hb
      have d0 := (bcell HB.out hbw).trans (hcell 0 _ rfl)
      have d1 := (bcell HB.out hbw).trans (hcell 1 _ rfl)
      have d2 := (bcell HB.out hbw).trans (hcell 2 _ rfl)
      have d3 := (bcell HB.out hbw).trans (hcell 3 _ rfl)
      simp only [Nat.add_zero] at d0
      subst hA
      have Hc := Lib.hid Hc
      have Hg := Lib.hid hg
      clear hcell hg
      go_wp2_with fail
      refine Hc.out.mono ?_
      rintro e w1 ⟨rfl, hb1⟩
      have HB1 := Lib.hid (HB.out.trans (hb1.mono HB.out.size))
      clear hb1 Hc
      cases hp : p g
      · have Hp := Lib.hid hp
        clear hp
        go_wp2_with fail
        go_roundw
        case rel =>
          refine ⟨k + 1, by omega, by go_num, Lib.hid fun j g' hj hg => ?_, HB1⟩
          rcases Nat.lt_or_ge j k with h | h
          · exact HN.out j g' h hg
          · obtain rfl : j = k := by omega
            rw [Hg.out] at hg
            cases hg
            exact Hp.out
        case measure => simp [intOf]; omega
      · have HR := Lib.hid (firstS_hit (p := p) Hg.out hp fun j g hj hg => HN.out j g hj hg)
        clear hp
        go_wp2_with fail
        go_ret
        exact ⟨ret_int (HR.out.symm.trans Hres.out), HB1.out⟩
    · have HR := Lib.hid (firstS_none (p := p) (l := gs) fun j g hg => HN.out j g (by have := (List.getElem?_eq_some_iff.1 hg).1; have := HL.out; omega) hg)
      go_wp2_with fail
      go_ret
      exact ⟨ret_int (HR.out.symm.trans Hres.out), HB.out⟩
set_option maxRecDepth 100000 in
set_option maxHeartbeats 1000000 in
theorem IndexB_any (F : FuncId) (v : Value) (gs : List BlkU) (p : BlkU → Bool) (w : World) (hv : BlksAt w w.heap.size v gs) (hc : ∀ (a : Array Value) (W : World), (callFunc F a).run Tryd.prog W = .ok (.enter F a) W)
    (HF : ∀ (us : List Value) (g : BlkU) (W : World), g ∈ gs → Below w.heap.size w W → BlkP w w.heap.size us g → Calls Tryd.prog F #[.agg us.toArray] W fun e W' => e = .returned (.bool (p g)) ∧ Below W.heap.size W W') :
    Calls Tryd.prog 75 #[v, .func (.func F) #[] #[]] w fun e w' => e = .returned (.int .i64 (firstS p gs)) ∧ Below w.heap.size w w' := by
  have HV := Lib.hid hv
  have Hf := Lib.hid HF
  obtain ⟨A, c, hvv, h1, h2⟩ := SlAt.form hv
  subst hvv
  obtain ⟨len, hlen⟩ : ∃ len, gs.length = len := ⟨_, rfl⟩
  have HL := Lib.hid hlen
  rw [hlen] at h1 HV ⊢
  have h63 : len ≤ 9223372036854775807 := by omega
  clear hlen HF h2 hv
  generalize hres : firstS p gs = res at *
  have Hres := Lib.hid hres
  clear hres
  go_enter Tryd.func75, Tryd.ntmps75
  go_wp2_with fail
  go_loopw [8] (fun i wr => ∃ k : Nat, k ≤ len ∧ i = .int .i64 k ∧ Hid (∀ (j : Nat) (g : BlkU), j < k → gs[j]? = some g → p g = false) ∧ Hid (Below w.heap.size w wr)) (fun i _ => len - (intOf i).toNat)
  case atStart => exact ⟨0, Nat.zero_le _, rfl, Lib.hid (fun j _ h => absurd h (Nat.not_lt_zero j)), Lib.hid (Below.refl _ _)⟩
  case round =>
    obtain ⟨k, hk, rfl, HN, HB⟩ := hrel
    by_cases hlt : k < len
    · obtain ⟨g, hg⟩ : ∃ g, gs[k]? = some g := ⟨gs[k]'(by rw [HL.out]; exact hlt), List.getElem?_eq_getElem _⟩
      obtain ⟨b, off, hA, hbw, us, hus, hcell⟩ := SlAt.at HV.out hg
      have Hc := Hf.out us g wr (List.mem_of_getElem? hg) HB.out hus
      obtain ⟨pv, lv, tv, rfl, hp, hl, ht⟩ := hus
      obtain ⟨pA, pc, rfl, _, _⟩ := SlAt.form hp
      obtain ⟨lA, lc, rfl, _, _⟩ := SlAt.form hl
      obtain ⟨tA, tc, rfl, _, _, _⟩ := ht
      have d0 := (bcell HB.out hbw).trans (hcell 0 _ rfl)
      have d1 := (bcell HB.out hbw).trans (hcell 1 _ rfl)
      have d2 := (bcell HB.out hbw).trans (hcell 2 _ rfl)
      have d3 := (bcell HB.out hbw).trans (hcell 3 _ rfl)
      have d4 := (bcell HB.out hbw).trans (hcell 4 _ rfl)
      have d5 := (bcell HB.out hbw).trans (hcell 5 _ rfl)
      simp only [Nat.add_zero] at d0
      clear hp hl
      subst hA
      have Hc := Lib.hid Hc
      have Hg := Lib.hid hg
      clear hcell hg
      go_wp2_with fail
      refine Hc.out.mono ?_
      rintro e w1 ⟨rfl, hb1⟩
      have HB1 := Lib.hid (HB.out.trans (hb1.mono HB.out.size))
      clear hb1 Hc
      cases hp : p g
      · have Hp := Lib.hid hp
        clear hp
        go_wp2_with fail
        go_roundw
        case rel =>
          refine ⟨k + 1, by omega, by go_num, Lib.hid fun j g' hj hg => ?_, HB1⟩
          rcases Nat.lt_or_ge j k with h | h
          · exact HN.out j g' h hg
          · obtain rfl : j = k := by omega
            rw [Hg.out] at hg
            cases hg
            exact Hp.out
        case measure => simp [intOf]; omega
      · have HR := Lib.hid (firstS_hit (p := p) Hg.out hp fun j g hj hg => HN.out j g hj hg)
        clear hp
        go_wp2_with fail
        go_ret
        exact ⟨ret_int (HR.out.symm.trans Hres.out), HB1.out⟩
    · have HR := Lib.hid (firstS_none (p := p) (l := gs) fun j g hg => HN.out j g (by have := (List.getElem?_eq_some_iff.1 hg).1; have := HL.out; omega) hg)
      go_wp2_with fail
      go_ret
      exact ⟨ret_int (HR.out.symm.trans Hres.out), HB.out⟩
set_option maxRecDepth 100000 in
set_option maxHeartbeats 1000000 in
theorem ContainsB_any (F : FuncId) (v : Value) (gs : List BlkU) (p : BlkU → Bool) (w : World) (hv : BlksAt w w.heap.size v gs) (hc : ∀ (a : Array Value) (W : World), (callFunc F a).run Tryd.prog W = .ok (.enter F a) W)
    (HF : ∀ (us : List Value) (g : BlkU) (W : World), g ∈ gs → Below w.heap.size w W → BlkP w w.heap.size us g → Calls Tryd.prog F #[.agg us.toArray] W fun e W' => e = .returned (.bool (p g)) ∧ Below W.heap.size W W') :
    Calls Tryd.prog 52 #[v, .func (.func F) #[] #[]] w fun e w' => e = .returned (.bool (gs.any p)) ∧ Below w.heap.size w w' := by
  have HC := Lib.hid (IndexB_any F v gs p w hv hc HF)
  have HA := Lib.hid (firstS_any p gs)
  clear hv hc HF
  generalize firstS p gs = r at *
  generalize gs.any p = bq at *
  go_enter Tryd.func52, Tryd.ntmps52
  go_wp2_with fail
  refine HC.out.mono ?_
  rintro e w1 ⟨rfl, hb1⟩
  have HB1 := Lib.hid hb1
  clear hb1
  go_wp2_with fail
  go_ret
  exact ⟨ret_bool HA.out, HB1.out⟩
theorem firstS_cases {α : Type} (p : α → Bool) (l : List α) : (firstS p l = -1 ∧ ∀ (j : Nat) (y : α), l[j]? = some y → p y = false) ∨ ∃ (i : Nat) (x : α), firstS p l = (i : Int) ∧ l[i]? = some x ∧ p x = true ∧ ∀ (j : Nat) (y : α), j < i → l[j]? = some y → p y = false := by
  unfold firstS
  cases h : l.findIdx? p with
  | none =>
    rw [List.findIdx?_eq_none_iff] at h
    exact .inl ⟨rfl, fun j y hj => h y (List.mem_of_getElem? hj)⟩
  | some i =>
    rw [List.findIdx?_eq_some_iff_getElem] at h
    obtain ⟨hlt, hp, hn⟩ := h
    refine .inr ⟨i, l[i], rfl, List.getElem?_eq_getElem hlt, hp, fun j y hj hy => ?_⟩
    have := hn j hj
    rw [List.getElem?_eq_getElem (by omega)] at hy
    cases hy
    simpa using this
theorem mainF_none {fs : List FunU} (h : ∀ (j : Nat) (f : FunU), fs[j]? = some f → mainU f.name = false) : mainF fs = (6, 0) := by
  unfold mainF
  split
  · rfl
  · rename_i i hf
    have h1 := List.find?_some hf
    cases hi : fs[i]? with
    | none => simp only [hi] at h1; cases h1
    | some f =>
      simp only [hi] at h1
      rw [h i f hi] at h1
      cases h1
theorem mainF_hit {fs : List FunU} {i : Nat} {f : FunU} (hi : fs[i]? = some f) (hm : mainU f.name = true) (h : ∀ (j : Nat) (f : FunU), j < i → fs[j]? = some f → mainU f.name = false) : mainF fs = if 0 < f.params then (5, (i : Int)) else (0, 0) := by
  have hlt := (List.getElem?_eq_some_iff.1 hi).1
  unfold mainF
  split
  · rename_i hf
    rw [List.find?_eq_none] at hf
    have h1 := hf i (by simpa using hlt)
    simp only [hi] at h1
    exact absurd hm h1
  · rename_i j hf
    rw [List.find?_eq_some_iff_getElem] at hf
    obtain ⟨hp, q, hq, he, hb⟩ := hf
    simp only [List.getElem_range] at he
    subst he
    have hji : q = i := by
      rcases Nat.lt_trichotomy q i with h1 | h1 | h1
      · have hql : q < fs.length := by omega
        simp only [List.getElem?_eq_getElem hql] at hp
        rw [h q _ h1 (List.getElem?_eq_getElem hql)] at hp
        cases hp
      · exact h1
      · have h2 := hb i h1
        simp only [List.getElem_range, hi, hm] at h2
        cases h2
    subst hji
    simp only [List.getD_eq_getElem?_getD, List.getElem?_map, hi, Option.map_some, Option.getD_some]
end Go.Proofs.YtgnkkgbjcodihaaDoor
