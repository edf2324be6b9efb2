/-
  Plain data of images on memory: globals, routines; slices.IndexFunc and ContainsFunc over globals, routines and instructions.
  Conditions: the function that is handed over answers as a plain predicate does.
-/
import Derived.Test.YtliampeaecgagaaDoorByK
import Derived.Test.YtliampeaecgagaaDoorKitD
namespace Go.Proofs.YtliampeaecgagaaDoor
open Go.RowKit

structure Glob where
  name : ByteArray
  size : Int
  init : List Int
structure Rout where
  name : ByteArray
  code : List Int
/-- The slice value v reads as the globals gs, below block B. -/
def GlobsAt (w : World) (B : Nat) (v : Value) (gs : List Glob) : Prop :=
  ∃ (A : Option Addr) (c : Nat), v = .slice A gs.length c ∧ gs.length ≤ c ∧ c ≤ 9223372036854775807 ∧
    (0 < gs.length → ∃ b off, A = some ⟨b, off, none⟩ ∧ b < B ∧ ∀ (k : Nat) (g : Glob), gs[k]? = some g → ∃ iv,
      w.cell? ⟨b, off + k * 3, none⟩ = some (.string g.name) ∧ w.cell? ⟨b, off + k * 3 + 1, none⟩ = some (.int .i64 g.size) ∧ w.cell? ⟨b, off + k * 3 + 2, none⟩ = some iv ∧ IntsAt w B iv g.init)
/-- The slice value v reads as the routines rs, below block B. -/
def RoutsAt (w : World) (B : Nat) (v : Value) (rs : List Rout) : Prop :=
  ∃ (A : Option Addr) (c : Nat), v = .slice A rs.length c ∧ rs.length ≤ c ∧ c ≤ 9223372036854775807 ∧
    (0 < rs.length → ∃ b off, A = some ⟨b, off, none⟩ ∧ b < B ∧ ∀ (k : Nat) (r : Rout), rs[k]? = some r → ∃ cv,
      w.cell? ⟨b, off + k * 2, none⟩ = some (.string r.name) ∧ w.cell? ⟨b, off + k * 2 + 1, none⟩ = some cv ∧ BAt w B cv r.code)
theorem GlobsAt.below {W w1 : World} {B B' : Nat} {v : Value} {gs : List Glob} (h : GlobsAt W B v gs) (hb : Below B' W w1) (hB : B ≤ B') : GlobsAt w1 B v gs := by
  obtain ⟨A, c, e, h1, h2, h3⟩ := h
  refine ⟨A, c, e, h1, h2, fun hl => ?_⟩
  obtain ⟨b, off, e1, e2, e3⟩ := h3 hl
  refine ⟨b, off, e1, e2, fun k g hk => ?_⟩
  obtain ⟨iv, c0, c1, c2, hi⟩ := e3 k g hk
  have hbl : b < B' := by omega
  exact ⟨iv, (bcell hb hbl).trans c0, (bcell hb hbl).trans c1, (bcell hb hbl).trans c2, hi.below hb hB⟩
theorem GlobsAt.more {w : World} {B B' : Nat} {v : Value} {gs : List Glob} (h : GlobsAt w B v gs) (hB : B ≤ B') : GlobsAt w B' v gs := by
  obtain ⟨A, c, e, h1, h2, h3⟩ := h
  refine ⟨A, c, e, h1, h2, fun hl => ?_⟩
  obtain ⟨b, off, e1, e2, e3⟩ := h3 hl
  refine ⟨b, off, e1, by omega, fun k g hk => ?_⟩
  obtain ⟨iv, c0, c1, c2, hi⟩ := e3 k g hk
  exact ⟨iv, c0, c1, c2, hi.more hB⟩
theorem RoutsAt.below {W w1 : World} {B B' : Nat} {v : Value} {rs : List Rout} (h : RoutsAt W B v rs) (hb : Below B' W w1) (hB : B ≤ B') : RoutsAt w1 B v rs := by
  obtain ⟨A, c, e, h1, h2, h3⟩ := h
  refine ⟨A, c, e, h1, h2, fun hl => ?_⟩
  obtain ⟨b, off, e1, e2, e3⟩ := h3 hl
  refine ⟨b, off, e1, e2, fun k g hk => ?_⟩
  obtain ⟨iv, c0, c1, hi⟩ := e3 k g hk
  have hbl : b < B' := by omega
  exact ⟨iv, (bcell hb hbl).trans c0, (bcell hb hbl).trans c1, hi.below hb hB⟩
theorem RoutsAt.more {w : World} {B B' : Nat} {v : Value} {rs : List Rout} (h : RoutsAt w B v rs) (hB : B ≤ B') : RoutsAt w B' v rs := by
  obtain ⟨A, c, e, h1, h2, h3⟩ := h
  refine ⟨A, c, e, h1, h2, fun hl => ?_⟩
  obtain ⟨b, off, e1, e2, e3⟩ := h3 hl
  refine ⟨b, off, e1, by omega, fun k g hk => ?_⟩
  obtain ⟨iv, c0, c1, hi⟩ := e3 k g hk
  exact ⟨iv, c0, c1, hi.more hB⟩
/-- The first place at which p holds; -1: at none. -/
def firstS {α : Type} (p : α → Bool) (l : List α) : Int := match l.findIdx? p with
  | some i => i
  | none => -1
theorem firstS_hit {α : Type} {p : α → Bool} {l : List α} {k : Nat} {x : α} (hk : l[k]? = some x) (hx : p x = true) (h : ∀ (j : Nat) (y : α), j < k → l[j]? = some y → p y = false) : firstS p l = k := by
  have hlt := (List.getElem?_eq_some_iff.1 hk).1
  have : l.findIdx? p = some k := by
    rw [List.findIdx?_eq_some_iff_getElem]
    refine ⟨hlt, ?_, fun j hj => ?_⟩
    · rw [(List.getElem?_eq_some_iff.1 hk).2]; exact hx
    · have := h j l[j] hj (List.getElem?_eq_getElem (by omega))
      simp [this]
  unfold firstS
  rw [this]
theorem firstS_none {α : Type} {p : α → Bool} {l : List α} (h : ∀ (j : Nat) (y : α), l[j]? = some y → p y = false) : firstS p l = -1 := by
  have : l.findIdx? p = none := by
    rw [List.findIdx?_eq_none_iff]
    intro x hx
    obtain ⟨j, hj⟩ := List.mem_iff_getElem?.1 hx
    exact h j x hj
  unfold firstS
  rw [this]
theorem firstS_any {α : Type} (p : α → Bool) (l : List α) : decide (0 ≤ firstS p l) = l.any p := by
  unfold firstS
  cases h : l.findIdx? p with
  | none =>
    rw [List.findIdx?_eq_none_iff] at h
    have : l.any p = false := by rw [List.any_eq_false]; intro x hx; rw [h x hx]; simp
    rw [this]
    rfl
  | some i =>
    rw [List.findIdx?_eq_some_iff_getElem] at h
    obtain ⟨hlt, hp, _⟩ := h
    have : l.any p = true := by rw [List.any_eq_true]; exact ⟨l[i], List.getElem_mem hlt, hp⟩
    rw [this, decide_eq_true_eq]
    simp

set_option maxRecDepth 100000 in
set_option maxHeartbeats 1000000 in
theorem IndexG_any (F : FuncId) (cap : Array Value) (v : Value) (gs : List Glob) (p : ByteArray → Bool) (w : World) (hv : GlobsAt w w.heap.size v gs) (h63 : gs.length ≤ 9223372036854775807) (hc : ∀ (a : Array Value) (W : World), (callFunc F a).run Tryd.prog W = .ok (.enter F a) W)
    (HF : ∀ (s : ByteArray) (n : Int) (iv : Value) (W : World), Below w.heap.size w W → Calls Tryd.prog F (#[.agg #[.string s, .int .i64 n, iv]] ++ cap) W fun e W' => e = .returned (.bool (p s)) ∧ Below W.heap.size W W') :
    Calls Tryd.prog 97 #[v, .func (.func F) #[] cap] w fun e w' => e = .returned (.int .i64 (firstS (fun g => p g.name) gs)) ∧ Below w.heap.size w w' := by
  have HV := Lib.hid hv
  have Hf := Lib.hid HF
  obtain ⟨A, c, hvv, h1, h2, _⟩ := hv
  subst hvv
  obtain ⟨len, hlen⟩ : ∃ len, gs.length = len := ⟨_, rfl⟩
  have HL := Lib.hid hlen
  rw [hlen] at h1 h63 ⊢
  clear hlen HF h2
  generalize hres : firstS (fun g => p g.name) gs = res at *
  have Hres := Lib.hid hres
  clear hres
  go_enter Tryd.func97, Tryd.ntmps97
  go_wp2_with fail
  go_loopw [8] (fun i wr => ∃ k : Nat, k ≤ len ∧ i = .int .i64 k ∧ Hid (∀ (j : Nat) (g : Glob), j < k → gs[j]? = some g → p g.name = false) ∧ Hid (Below w.heap.size w wr)) (fun i _ => len - (intOf i).toNat)
  case atStart => exact ⟨0, Nat.zero_le _, rfl, Lib.hid (fun j _ h => absurd h (Nat.not_lt_zero j)), Lib.hid (Below.refl _ _)⟩
  case round =>
    obtain ⟨k, hk, rfl, HN, HB⟩ := hrel
    by_cases hlt : k < len
    · obtain ⟨A', c', e, _, _, h3⟩ := HV.out
      obtain ⟨b, off, hA, hbw, hcell⟩ := h3 (by rw [HL.out]; omega)
      cases e
      subst hA
      obtain ⟨⟨gn, gz, gi⟩, hg⟩ : ∃ g, gs[k]? = some g := ⟨gs[k]'(by rw [HL.out]; exact hlt), List.getElem?_eq_getElem _⟩
      obtain ⟨iv, c0, c1, c2, _⟩ := hcell k _ hg
      have c0 := (bcell HB.out hbw).trans c0
      have c1 := (bcell HB.out hbw).trans c1
      have c2 := (bcell HB.out hbw).trans c2
      have Hg := Lib.hid hg
      clear hcell h3 hg
      go_wp2_with fail
      refine (Hf.out gn gz iv _ HB.out).mono ?_
      rintro e w1 ⟨rfl, hb1⟩
      have HB1 := Lib.hid (HB.out.trans (hb1.mono HB.out.size))
      clear hb1
      cases hp : p gn
      · have Hp := Lib.hid hp
        clear hp
        go_wp2_with fail
        go_roundw
        case rel =>
          refine ⟨k + 1, by omega, by go_num, Lib.hid fun j g hj hg => ?_, HB1⟩
          rcases Nat.lt_or_ge j k with h | h
          · exact HN.out j g h hg
          · obtain rfl : j = k := by omega
            rw [Hg.out] at hg
            cases hg
            exact Hp.out
        case measure => simp [intOf]; omega
      · have HR := Lib.hid (firstS_hit (p := fun g => p g.name) Hg.out hp fun j g hj hg => HN.out j g hj hg)
        clear hp
        go_wp2_with fail
        go_ret
        exact ⟨ret_int (HR.out.symm.trans Hres.out), HB1.out⟩
    · have HR := Lib.hid (firstS_none (p := fun g => p g.name) (l := gs) fun j g hg => HN.out j g (by have := (List.getElem?_eq_some_iff.1 hg).1; have := HL.out; omega) hg)
      go_wp2_with fail
      go_ret
      exact ⟨ret_int (HR.out.symm.trans Hres.out), HB.out⟩
set_option maxRecDepth 100000 in
set_option maxHeartbeats 1000000 in
theorem ContainsG_any (F : FuncId) (cap : Array Value) (v : Value) (gs : List Glob) (p : ByteArray → Bool) (w : World) (hv : GlobsAt w w.heap.size v gs) (h63 : gs.length ≤ 9223372036854775807) (hc : ∀ (a : Array Value) (W : World), (callFunc F a).run Tryd.prog W = .ok (.enter F a) W)
    (HF : ∀ (s : ByteArray) (n : Int) (iv : Value) (W : World), Below w.heap.size w W → Calls Tryd.prog F (#[.agg #[.string s, .int .i64 n, iv]] ++ cap) W fun e W' => e = .returned (.bool (p s)) ∧ Below W.heap.size W W') :
    Calls Tryd.prog 72 #[v, .func (.func F) #[] cap] w fun e w' => e = .returned (.bool (gs.any fun g => p g.name)) ∧ Below w.heap.size w w' := by
  have HC := Lib.hid (IndexG_any F cap v gs p w hv h63 hc HF)
  have HA := Lib.hid (firstS_any (fun g => p g.name) gs)
  clear hv h63 hc HF
  generalize firstS (fun g => p g.name) gs = r at *
  generalize (gs.any fun g => p g.name) = bq at *
  go_enter Tryd.func72, Tryd.ntmps72
  go_wp2_with fail
  refine HC.out.mono ?_
  rintro e w1 ⟨rfl, hb1⟩
  have HB1 := Lib.hid hb1
  clear hb1
  go_wp2_with fail
  go_ret
  exact ⟨ret_bool HA.out, HB1.out⟩
set_option maxRecDepth 100000 in
set_option maxHeartbeats 1000000 in
theorem IndexR_any (F : FuncId) (cap : Array Value) (v : Value) (gs : List Rout) (p : ByteArray → Bool) (w : World) (hv : RoutsAt w w.heap.size v gs) (h63 : gs.length ≤ 9223372036854775807) (hc : ∀ (a : Array Value) (W : World), (callFunc F a).run Tryd.prog W = .ok (.enter F a) W)
    (HF : ∀ (s : ByteArray) (iv : Value) (W : World), Below w.heap.size w W → Calls Tryd.prog F (#[.agg #[.string s, iv]] ++ cap) W fun e W' => e = .returned (.bool (p s)) ∧ Below W.heap.size W W') :
    Calls Tryd.prog 98 #[v, .func (.func F) #[] cap] w fun e w' => e = .returned (.int .i64 (firstS (fun g => p g.name) gs)) ∧ Below w.heap.size w w' := by
  have HV := Lib.hid hv
  have Hf := Lib.hid HF
  obtain ⟨A, c, hvv, h1, h2, _⟩ := hv
  subst hvv
  obtain ⟨len, hlen⟩ : ∃ len, gs.length = len := ⟨_, rfl⟩
  have HL := Lib.hid hlen
  rw [hlen] at h1 h63 ⊢
  clear hlen HF h2
  generalize hres : firstS (fun g => p g.name) gs = res at *
  have Hres := Lib.hid hres
  clear hres
  go_enter Tryd.func98, Tryd.ntmps98
  go_wp2_with fail
  go_loopw [8] (fun i wr => ∃ k : Nat, k ≤ len ∧ i = .int .i64 k ∧ Hid (∀ (j : Nat) (g : Rout), j < k → gs[j]? = some g → p g.name = false) ∧ Hid (Below w.heap.size w wr)) (fun i _ => len - (intOf i).toNat)
  case atStart => exact ⟨0, Nat.zero_le _, rfl, Lib.hid (fun j _ h => absurd h (Nat.not_lt_zero j)), Lib.hid (Below.refl _ _)⟩
  case round =>
    obtain ⟨k, hk, rfl, HN, HB⟩ := hrel
    by_cases hlt : k < len
    · obtain ⟨A', c', e, _, _, h3⟩ := HV.out
      obtain ⟨b, off, hA, hbw, hcell⟩ := h3 (by rw [HL.out]; omega)
      cases e
      subst hA
      obtain ⟨⟨gn, gc⟩, hg⟩ : ∃ g, gs[k]? = some g := ⟨gs[k]'(by rw [HL.out]; exact hlt), List.getElem?_eq_getElem _⟩
      obtain ⟨iv, c0, c1, _⟩ := hcell k _ hg
      have c0 := (bcell HB.out hbw).trans c0
      have c1 := (bcell HB.out hbw).trans c1
      have Hg := Lib.hid hg
      clear hcell h3 hg
      go_wp2_with fail
      refine (Hf.out gn iv _ HB.out).mono ?_
      rintro e w1 ⟨rfl, hb1⟩
      have HB1 := Lib.hid (HB.out.trans (hb1.mono HB.out.size))
      clear hb1
      cases hp : p gn
      · have Hp := Lib.hid hp
        clear hp
        go_wp2_with fail
        go_roundw
        case rel =>
          refine ⟨k + 1, by omega, by go_num, Lib.hid fun j g hj hg => ?_, HB1⟩
          rcases Nat.lt_or_ge j k with h | h
          · exact HN.out j g h hg
          · obtain rfl : j = k := by omega
            rw [Hg.out] at hg
            cases hg
            exact Hp.out
        case measure => simp [intOf]; omega
      · have HR := Lib.hid (firstS_hit (p := fun g => p g.name) Hg.out hp fun j g hj hg => HN.out j g hj hg)
        clear hp
        go_wp2_with fail
        go_ret
        exact ⟨ret_int (HR.out.symm.trans Hres.out), HB1.out⟩
    · have HR := Lib.hid (firstS_none (p := fun g => p g.name) (l := gs) fun j g hg => HN.out j g (by have := (List.getElem?_eq_some_iff.1 hg).1; have := HL.out; omega) hg)
      go_wp2_with fail
      go_ret
      exact ⟨ret_int (HR.out.symm.trans Hres.out), HB.out⟩
set_option maxRecDepth 100000 in
set_option maxHeartbeats 1000000 in
theorem ContainsR_any (F : FuncId) (cap : Array Value) (v : Value) (gs : List Rout) (p : ByteArray → Bool) (w : World) (hv : RoutsAt w w.heap.size v gs) (h63 : gs.length ≤ 9223372036854775807) (hc : ∀ (a : Array Value) (W : World), (callFunc F a).run Tryd.prog W = .ok (.enter F a) W)
    (HF : ∀ (s : ByteArray) (iv : Value) (W : World), Below w.heap.size w W → Calls Tryd.prog F (#[.agg #[.string s, iv]] ++ cap) W fun e W' => e = .returned (.bool (p s)) ∧ Below W.heap.size W W') :
    Calls Tryd.prog 74 #[v, .func (.func F) #[] cap] w fun e w' => e = .returned (.bool (gs.any fun g => p g.name)) ∧ Below w.heap.size w w' := by
  have HC := Lib.hid (IndexR_any F cap v gs p w hv h63 hc HF)
  have HA := Lib.hid (firstS_any (fun g => p g.name) gs)
  clear hv h63 hc HF
  generalize firstS (fun g => p g.name) gs = r at *
  generalize (gs.any fun g => p g.name) = bq at *
  go_enter Tryd.func74, Tryd.ntmps74
  go_wp2_with fail
  refine HC.out.mono ?_
  rintro e w1 ⟨rfl, hb1⟩
  have HB1 := Lib.hid hb1
  clear hb1
  go_wp2_with fail
  go_ret
  exact ⟨ret_bool HA.out, HB1.out⟩
set_option maxRecDepth 100000 in
set_option maxHeartbeats 1000000 in
theorem IndexM_any (F : FuncId) (cap : Array Value) (v : Value) (gs : List Mac) (p : Mac → Bool) (w : World) (hv : MacsAt w w.heap.size v gs) (h63 : gs.length ≤ 9223372036854775807) (hc : ∀ (a : Array Value) (W : World), (callFunc F a).run Tryd.prog W = .ok (.enter F a) W)
    (HF : ∀ (m : Mac) (W : World), Below w.heap.size w W → Calls Tryd.prog F (#[.agg #[.int .i64 m.op, .int .i64 m.dst, .int .i64 m.a, .int .i64 m.b, .int .i64 m.n]] ++ cap) W fun e W' => e = .returned (.bool (p m)) ∧ Below W.heap.size W W') :
    Calls Tryd.prog 99 #[v, .func (.func F) #[] cap] w fun e w' => e = .returned (.int .i64 (firstS (fun g => p g) gs)) ∧ Below w.heap.size w w' := by
  have HV := Lib.hid hv
  have Hf := Lib.hid HF
  obtain ⟨A, c, hvv, h1, h2, _⟩ := hv
  subst hvv
  obtain ⟨len, hlen⟩ : ∃ len, gs.length = len := ⟨_, rfl⟩
  have HL := Lib.hid hlen
  rw [hlen] at h1 h63 ⊢
  clear hlen HF h2
  generalize hres : firstS (fun g => p g) gs = res at *
  have Hres := Lib.hid hres
  clear hres
  go_enter Tryd.func99, Tryd.ntmps99
  go_wp2_with fail
  go_loopw [8] (fun i wr => ∃ k : Nat, k ≤ len ∧ i = .int .i64 k ∧ Hid (∀ (j : Nat) (g : Mac), j < k → gs[j]? = some g → p g = false) ∧ Hid (Below w.heap.size w wr)) (fun i _ => len - (intOf i).toNat)
  case atStart => exact ⟨0, Nat.zero_le _, rfl, Lib.hid (fun j _ h => absurd h (Nat.not_lt_zero j)), Lib.hid (Below.refl _ _)⟩
  case round =>
    obtain ⟨k, hk, rfl, HN, HB⟩ := hrel
    by_cases hlt : k < len
    · obtain ⟨A', c', e, _, _, h3⟩ := HV.out
      obtain ⟨b, off, hA, hbw, hcell⟩ := h3 (by rw [HL.out]; omega)
      cases e
      subst hA
      obtain ⟨⟨mo, md, ma, mb, mn⟩, hg⟩ : ∃ g, gs[k]? = some g := ⟨gs[k]'(by rw [HL.out]; exact hlt), List.getElem?_eq_getElem _⟩
      obtain ⟨c0, c1, c2, c3, c4⟩ := (hcell k _ hg).below HB.out hbw
      have Hg := Lib.hid hg
      clear hcell h3 hg
      go_wp2_with fail
      refine (Hf.out ⟨mo, md, ma, mb, mn⟩ _ HB.out).mono ?_
      rintro e w1 ⟨rfl, hb1⟩
      have HB1 := Lib.hid (HB.out.trans (hb1.mono HB.out.size))
      clear hb1
      cases hp : p ⟨mo, md, ma, mb, mn⟩
      · have Hp := Lib.hid hp
        clear hp
        go_wp2_with fail
        go_roundw
        case rel =>
          refine ⟨k + 1, by omega, by go_num, Lib.hid fun j g hj hg => ?_, HB1⟩
          rcases Nat.lt_or_ge j k with h | h
          · exact HN.out j g h hg
          · obtain rfl : j = k := by omega
            rw [Hg.out] at hg
            cases hg
            exact Hp.out
        case measure => simp [intOf]; omega
      · have HR := Lib.hid (firstS_hit (p := fun g => p g) Hg.out hp fun j g hj hg => HN.out j g hj hg)
        clear hp
        go_wp2_with fail
        go_ret
        exact ⟨ret_int (HR.out.symm.trans Hres.out), HB1.out⟩
    · have HR := Lib.hid (firstS_none (p := fun g => p g) (l := gs) fun j g hg => HN.out j g (by have := (List.getElem?_eq_some_iff.1 hg).1; have := HL.out; omega) hg)
      go_wp2_with fail
      go_ret
      exact ⟨ret_int (HR.out.symm.trans Hres.out), HB.out⟩
set_option maxRecDepth 100000 in
set_option maxHeartbeats 1000000 in
theorem ContainsM_any (F : FuncId) (cap : Array Value) (v : Value) (gs : List Mac) (p : Mac → Bool) (w : World) (hv : MacsAt w w.heap.size v gs) (h63 : gs.length ≤ 9223372036854775807) (hc : ∀ (a : Array Value) (W : World), (callFunc F a).run Tryd.prog W = .ok (.enter F a) W)
    (HF : ∀ (m : Mac) (W : World), Below w.heap.size w W → Calls Tryd.prog F (#[.agg #[.int .i64 m.op, .int .i64 m.dst, .int .i64 m.a, .int .i64 m.b, .int .i64 m.n]] ++ cap) W fun e W' => e = .returned (.bool (p m)) ∧ Below W.heap.size W W') :
    Calls Tryd.prog 78 #[v, .func (.func F) #[] cap] w fun e w' => e = .returned (.bool (gs.any fun g => p g)) ∧ Below w.heap.size w w' := by
  have HC := Lib.hid (IndexM_any F cap v gs p w hv h63 hc HF)
  have HA := Lib.hid (firstS_any (fun g => p g) gs)
  clear hv h63 hc HF
  generalize firstS (fun g => p g) gs = r at *
  generalize (gs.any fun g => p g) = bq at *
  go_enter Tryd.func78, Tryd.ntmps78
  go_wp2_with fail
  refine HC.out.mono ?_
  rintro e w1 ⟨rfl, hb1⟩
  have HB1 := Lib.hid hb1
  clear hb1
  go_wp2_with fail
  go_ret
  exact ⟨ret_bool HA.out, HB1.out⟩
end Go.Proofs.YtliampeaecgagaaDoor
