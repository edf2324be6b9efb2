/-
  Texts of the claim AsmWholeSays (McD): what each proves stands at its theorems.
  Conditions: as the theorems say.
-/
import Derived.RegionTactic
import Derived.Conc.MuLone
import Derived.Deep.QuietTactic
import Derived.BigQuiet
import Derived.Test.YtdldochhondifaaGreatDoorVMacC
import Derived.Test.YtdldochhondifaaGreatDoorVKitD
namespace Go.Proofs.YtdldochhondifaaGreatDoor
open Go.RowKit

/-- May a letter stand at a place of a name? -/
def okB (k : Nat) (x : Int) : Bool := decide ((97 ≤ x ∧ x ≤ 122) ∨ (65 ≤ x ∧ x ≤ 90) ∨ x = 95 ∨ (0 < k ∧ 48 ≤ x ∧ x ≤ 57))
/-- May a text be a name? -/
def nameS (s : ByteArray) : Bool := decide (1 ≤ s.size ∧ s.size ≤ 12) && (List.range s.size).all fun k => okB k ((s.data.toList.getD k 0).toNat : Int)
theorem byte_getD (s : ByteArray) (k : Nat) (h : k < s.size) : s.data.toList.getD k 0 = s[k] := by
  rw [List.getD_eq_getElem?_getD, List.getElem?_eq_getElem (by simpa using h)]
  rfl
theorem name_yes (s : ByteArray) (h1 : 1 ≤ s.size) (h2 : s.size ≤ 12) (h : ∀ (j : Nat) (hj : j < s.size), okB j (s[j].toNat : Int) = true) : nameS s = true := by
  unfold nameS
  rw [Bool.and_eq_true, decide_eq_true_eq, List.all_eq_true]
  refine ⟨⟨h1, h2⟩, fun k hk => ?_⟩
  have hk' : k < s.size := by simpa using hk
  rw [byte_getD s k hk']
  exact h k hk'
theorem name_size (s : ByteArray) (h : s.size < 1 ∨ 12 < s.size) : nameS s = false := by
  unfold nameS
  rw [Bool.and_eq_false_iff]
  left
  rw [decide_eq_false_iff_not]
  omega
theorem name_no (s : ByteArray) (k : Nat) (hk : k < s.size) (h : okB k (s[k].toNat : Int) = false) : nameS s = false := by
  unfold nameS
  rw [Bool.and_eq_false_iff]
  right
  rw [List.all_eq_false]
  refine ⟨k, by simpa using hk, ?_⟩
  rw [byte_getD s k hk, h]
  simp
set_option maxHeartbeats 2000000 in
theorem Name_any (s : ByteArray) (w : World) (hs : s.size ≤ 9223372036854775807) : Calls Tryz.prog 85 #[.string s] w fun e w' => e = .returned (.bool (nameS s)) ∧ w = w' := by
  by_cases hz : s.size < 1 ∨ 12 < s.size
  · have HN := Lib.hid (name_size s hz)
    rcases hz with hz | hz
    all_goals
      go_enter Tryz.func85, Tryz.ntmps85
      go_wp2_with fail
      go_ret
      exact ⟨ret_bool HN.out.symm, rfl⟩
  · have h1 : 1 ≤ s.size := by omega
    have h2 : s.size ≤ 12 := by omega
    clear hz
    go_enter Tryz.func85, Tryz.ntmps85
    go_wp2_with fail
    go_loop [15] (fun i => ∃ k : Nat, k ≤ s.size ∧ i = .int .i64 k ∧ Hid (∀ (j : Nat) (hj : j < s.size), j < k → okB j (s[j].toNat : Int) = true)) (fun i => s.size - (intOf i).toNat)
    case atStart => exact ⟨0, Nat.zero_le _, rfl, Lib.hid (fun j _ h => absurd h (Nat.not_lt_zero j))⟩
    case round =>
      obtain ⟨k, hk, rfl, H⟩ := hrel
      by_cases hlt : k < s.size
      · have hx0 : (0 : Int) ≤ (s[k].toNat : Int) := by omega
        rcases (by omega : ((s[k].toNat : Int) < 48) ∨ (48 ≤ (s[k].toNat : Int) ∧ (s[k].toNat : Int) ≤ 57) ∨ (58 ≤ (s[k].toNat : Int) ∧ (s[k].toNat : Int) ≤ 64) ∨ (65 ≤ (s[k].toNat : Int) ∧ (s[k].toNat : Int) ≤ 90) ∨ (91 ≤ (s[k].toNat : Int) ∧ (s[k].toNat : Int) ≤ 94) ∨ (95 ≤ (s[k].toNat : Int) ∧ (s[k].toNat : Int) ≤ 95) ∨ (96 ≤ (s[k].toNat : Int) ∧ (s[k].toNat : Int) ≤ 96) ∨ (97 ≤ (s[k].toNat : Int) ∧ (s[k].toNat : Int) ≤ 122) ∨ (123 ≤ (s[k].toNat : Int))) with a1 | ⟨a1, a2⟩ | ⟨a1, a2⟩ | ⟨a1, a2⟩ | ⟨a1, a2⟩ | ⟨a1, a2⟩ | ⟨a1, a2⟩ | ⟨a1, a2⟩ | a1
        all_goals
          first | (have hb : ((s[k].toNat : Int) == 95) = true := by simp; omega) | (have hb : ((s[k].toNat : Int) == 95) = false := by simp; omega)
          by_cases h0 : k = 0
          all_goals
            first | (have hb0 : ((k : Int) == 0) = true := by simp [h0]) | (have hb0 : ((k : Int) == 0) = false := by simp [h0])
            first | (have hk0 : 0 < k := by omega) | (have hk0 : k < 1 := by omega)
            clear h0
            go_wp2_with fail
            all_goals first
              | (go_round
                 case rel =>
                   refine ⟨k + 1, by omega, by go_num, Lib.hid fun j hj hjk => ?_⟩
                   rcases Nat.lt_or_ge j k with h | h
                   · exact H.out j hj h
                   · obtain rfl : j = k := by omega
                     unfold okB
                     rw [decide_eq_true_eq]
                     omega
                 case measure => simp [intOf]; omega)
              | (go_ret
                 refine ⟨ret_bool (name_no s k hlt ?_).symm, rfl⟩
                 unfold okB
                 rw [decide_eq_false_iff_not]
                 omega)
              | (exfalso
                 simp only [Bool.not_eq_false', decide_eq_true_eq] at *
                 omega)
      · have HN := Lib.hid (name_yes s h1 h2 fun j hj => H.out j hj (by omega))
        go_wp2_with fail
        go_ret
        exact ⟨ret_bool HN.out.symm, rfl⟩
set_option maxHeartbeats 2000000 in
theorem GoodName_any (s : ByteArray) (w : World) (hs : s.size ≤ 9223372036854775807) : Calls Tryz.prog 40 #[.string s] w fun e w' => e = .returned (.bool (nameS s)) ∧ w = w' := by
  by_cases hz : s.size < 1 ∨ 12 < s.size
  · have HN := Lib.hid (name_size s hz)
    rcases hz with hz | hz
    all_goals
      go_enter Tryz.func40, Tryz.ntmps40
      go_wp2_with fail
      go_ret
      exact ⟨ret_bool HN.out.symm, rfl⟩
  · have h1 : 1 ≤ s.size := by omega
    have h2 : s.size ≤ 12 := by omega
    clear hz
    go_enter Tryz.func40, Tryz.ntmps40
    go_wp2_with fail
    go_loop [3] (fun i => ∃ k : Nat, k ≤ s.size ∧ i = .int .i64 k ∧ Hid (∀ (j : Nat) (hj : j < s.size), j < k → okB j (s[j].toNat : Int) = true)) (fun i => s.size - (intOf i).toNat)
    case atStart => exact ⟨0, Nat.zero_le _, rfl, Lib.hid (fun j _ h => absurd h (Nat.not_lt_zero j))⟩
    case round =>
      obtain ⟨k, hk, rfl, H⟩ := hrel
      by_cases hlt : k < s.size
      · have hx0 : (0 : Int) ≤ (s[k].toNat : Int) := by omega
        rcases (by omega : ((s[k].toNat : Int) < 48) ∨ (48 ≤ (s[k].toNat : Int) ∧ (s[k].toNat : Int) ≤ 57) ∨ (58 ≤ (s[k].toNat : Int) ∧ (s[k].toNat : Int) ≤ 64) ∨ (65 ≤ (s[k].toNat : Int) ∧ (s[k].toNat : Int) ≤ 90) ∨ (91 ≤ (s[k].toNat : Int) ∧ (s[k].toNat : Int) ≤ 94) ∨ (95 ≤ (s[k].toNat : Int) ∧ (s[k].toNat : Int) ≤ 95) ∨ (96 ≤ (s[k].toNat : Int) ∧ (s[k].toNat : Int) ≤ 96) ∨ (97 ≤ (s[k].toNat : Int) ∧ (s[k].toNat : Int) ≤ 122) ∨ (123 ≤ (s[k].toNat : Int))) with a1 | ⟨a1, a2⟩ | ⟨a1, a2⟩ | ⟨a1, a2⟩ | ⟨a1, a2⟩ | ⟨a1, a2⟩ | ⟨a1, a2⟩ | ⟨a1, a2⟩ | a1
        all_goals
          first | (have hb : ((s[k].toNat : Int) == 95) = true := by simp; omega) | (have hb : ((s[k].toNat : Int) == 95) = false := by simp; omega)
          by_cases h0 : k = 0
          all_goals
            first | (have hb0 : ((k : Int) == 0) = true := by simp [h0]) | (have hb0 : ((k : Int) == 0) = false := by simp [h0])
            first | (have hk0 : 0 < k := by omega) | (have hk0 : k < 1 := by omega)
            clear h0
            go_wp2_with fail
            all_goals first
              | (go_round
                 case rel =>
                   refine ⟨k + 1, by omega, by go_num, Lib.hid fun j hj hjk => ?_⟩
                   rcases Nat.lt_or_ge j k with h | h
                   · exact H.out j hj h
                   · obtain rfl : j = k := by omega
                     unfold okB
                     rw [decide_eq_true_eq]
                     omega
                 case measure => simp [intOf]; omega)
              | (go_ret
                 refine ⟨ret_bool (name_no s k hlt ?_).symm, rfl⟩
                 unfold okB
                 rw [decide_eq_false_iff_not]
                 omega)
              | (exfalso
                 simp only [Bool.not_eq_false', decide_eq_true_eq] at *
                 omega)
      · have HN := Lib.hid (name_yes s h1 h2 fun j hj => H.out j hj (by omega))
        go_wp2_with fail
        go_ret
        exact ⟨ret_bool HN.out.symm, rfl⟩
theorem Within_any (n lo hi : Int) (w : World) : Calls Tryz.prog 63 #[.int .i64 n, .int .i64 lo, .int .i64 hi] w fun e w' => e = .returned (.bool (decide (lo ≤ n ∧ n ≤ hi))) ∧ w = w' := by
  by_cases h1 : lo ≤ n
  · by_cases h2 : n ≤ hi
    · go_enter Tryz.func63, Tryz.ntmps63
      go_wp2_with fail
      go_ret
      exact ⟨ret_bool (by simp; omega), rfl⟩
    · go_enter Tryz.func63, Tryz.ntmps63
      go_wp2_with fail
      go_ret
      exact ⟨ret_bool (by simp; omega), rfl⟩
  · go_enter Tryz.func63, Tryz.ntmps63
    go_wp2_with fail
    go_ret
    exact ⟨ret_bool (by simp; omega), rfl⟩
end Go.Proofs.YtdldochhondifaaGreatDoor
namespace Go.Proofs.YtdldochhondifaaGreatDoor
open Go.RowKit

structure Glob where
  name : ByteArray
  size : Int
  init : List Int
structure Rout where
  name : ByteArray
  code : List Int
/-- The slice value v reads as the globals gs, below block B. -/
def GlobsAt (w : World) (B : Nat) (v : Value) (gs : List Glob) : Prop :=
  ∃ (A : Option Addr) (c : Nat), v = .slice A gs.length c ∧ gs.length ≤ c ∧ c ≤ 9223372036854775807 ∧
    (0 < gs.length → ∃ b off, A = some ⟨b, off, none⟩ ∧ b < B ∧ ∀ (k : Nat) (g : Glob), gs[k]? = some g → ∃ iv,
      w.cell? ⟨b, off + k * 3, none⟩ = some (.string g.name) ∧ w.cell? ⟨b, off + k * 3 + 1, none⟩ = some (.int .i64 g.size) ∧ w.cell? ⟨b, off + k * 3 + 2, none⟩ = some iv ∧ IntsAt w B iv g.init)
/-- The slice value v reads as the routines rs, below block B. -/
def RoutsAt (w : World) (B : Nat) (v : Value) (rs : List Rout) : Prop :=
  ∃ (A : Option Addr) (c : Nat), v = .slice A rs.length c ∧ rs.length ≤ c ∧ c ≤ 9223372036854775807 ∧
    (0 < rs.length → ∃ b off, A = some ⟨b, off, none⟩ ∧ b < B ∧ ∀ (k : Nat) (r : Rout), rs[k]? = some r → ∃ cv,
      w.cell? ⟨b, off + k * 2, none⟩ = some (.string r.name) ∧ w.cell? ⟨b, off + k * 2 + 1, none⟩ = some cv ∧ BAt w B cv r.code)
theorem GlobsAt.below {W w1 : World} {B B' : Nat} {v : Value} {gs : List Glob} (h : GlobsAt W B v gs) (hb : Below B' W w1) (hB : B ≤ B') : GlobsAt w1 B v gs := by
  obtain ⟨A, c, e, h1, h2, h3⟩ := h
  refine ⟨A, c, e, h1, h2, fun hl => ?_⟩
  obtain ⟨b, off, e1, e2, e3⟩ := h3 hl
  refine ⟨b, off, e1, e2, fun k g hk => ?_⟩
  obtain ⟨iv, c0, c1, c2, hi⟩ := e3 k g hk
  have hbl : b < B' := by omega
  exact ⟨iv, (bcell hb hbl).trans c0, (bcell hb hbl).trans c1, (bcell hb hbl).trans c2, hi.below hb hB⟩
theorem GlobsAt.more {w : World} {B B' : Nat} {v : Value} {gs : List Glob} (h : GlobsAt w B v gs) (hB : B ≤ B') : GlobsAt w B' v gs := by
  obtain ⟨A, c, e, h1, h2, h3⟩ := h
  refine ⟨A, c, e, h1, h2, fun hl => ?_⟩
  obtain ⟨b, off, e1, e2, e3⟩ := h3 hl
  refine ⟨b, off, e1, by omega, fun k g hk => ?_⟩
  obtain ⟨iv, c0, c1, c2, hi⟩ := e3 k g hk
  exact ⟨iv, c0, c1, c2, hi.more hB⟩
theorem RoutsAt.below {W w1 : World} {B B' : Nat} {v : Value} {rs : List Rout} (h : RoutsAt W B v rs) (hb : Below B' W w1) (hB : B ≤ B') : RoutsAt w1 B v rs := by
  obtain ⟨A, c, e, h1, h2, h3⟩ := h
  refine ⟨A, c, e, h1, h2, fun hl => ?_⟩
  obtain ⟨b, off, e1, e2, e3⟩ := h3 hl
  refine ⟨b, off, e1, e2, fun k g hk => ?_⟩
  obtain ⟨iv, c0, c1, hi⟩ := e3 k g hk
  have hbl : b < B' := by omega
  exact ⟨iv, (bcell hb hbl).trans c0, (bcell hb hbl).trans c1, hi.below hb hB⟩
theorem RoutsAt.more {w : World} {B B' : Nat} {v : Value} {rs : List Rout} (h : RoutsAt w B v rs) (hB : B ≤ B') : RoutsAt w B' v rs := by
  obtain ⟨A, c, e, h1, h2, h3⟩ := h
  refine ⟨A, c, e, h1, h2, fun hl => ?_⟩
  obtain ⟨b, off, e1, e2, e3⟩ := h3 hl
  refine ⟨b, off, e1, by omega, fun k g hk => ?_⟩
  obtain ⟨iv, c0, c1, hi⟩ := e3 k g hk
  exact ⟨iv, c0, c1, hi.more hB⟩
/-- The first place at which p holds; -1: at none. -/
def firstS {α : Type} (p : α → Bool) (l : List α) : Int := match l.findIdx? p with
  | some i => i
  | none => -1
theorem firstS_hit {α : Type} {p : α → Bool} {l : List α} {k : Nat} {x : α} (hk : l[k]? = some x) (hx : p x = true) (h : ∀ (j : Nat) (y : α), j < k → l[j]? = some y → p y = false) : firstS p l = k := by
  have hlt := (List.getElem?_eq_some_iff.1 hk).1
  have : l.findIdx? p = some k := by
    rw [List.findIdx?_eq_some_iff_getElem]
    refine ⟨hlt, ?_, fun j hj => ?_⟩
    · rw [(List.getElem?_eq_some_iff.1 hk).2]; exact hx
    · have := h j l[j] hj (List.getElem?_eq_getElem (by omega))
      simp [this]
  unfold firstS
  rw [this]
theorem firstS_none {α : Type} {p : α → Bool} {l : List α} (h : ∀ (j : Nat) (y : α), l[j]? = some y → p y = false) : firstS p l = -1 := by
  have : l.findIdx? p = none := by
    rw [List.findIdx?_eq_none_iff]
    intro x hx
    obtain ⟨j, hj⟩ := List.mem_iff_getElem?.1 hx
    exact h j x hj
  unfold firstS
  rw [this]
theorem firstS_any {α : Type} (p : α → Bool) (l : List α) : decide (0 ≤ firstS p l) = l.any p := by
  unfold firstS
  cases h : l.findIdx? p with
  | none =>
    rw [List.findIdx?_eq_none_iff] at h
    have : l.any p = false := by rw [List.any_eq_false]; intro x hx; rw [h x hx]; simp
    rw [this]
    rfl
  | some i =>
    rw [List.findIdx?_eq_some_iff_getElem] at h
    obtain ⟨hlt, hp, _⟩ := h
    have : l.any p = true := by rw [List.any_eq_true]; exact ⟨l[i], List.getElem_mem hlt, hp⟩
    rw [this, decide_eq_true_eq]
    simp

set_option maxRecDepth 100000 in
set_option maxHeartbeats 1000000 in
theorem IndexG_any (F : FuncId) (cap : Array Value) (v : Value) (gs : List Glob) (p : ByteArray → Bool) (w : World) (hv : GlobsAt w w.heap.size v gs) (h63 : gs.length ≤ 9223372036854775807) (hc : ∀ (a : Array Value) (W : World), (callFunc F a).run Tryz.prog W = .ok (.enter F a) W)
    (HF : ∀ (s : ByteArray) (n : Int) (iv : Value) (W : World), Below w.heap.size w W → Calls Tryz.prog F (#[.agg #[.string s, .int .i64 n, iv]] ++ cap) W fun e W' => e = .returned (.bool (p s)) ∧ Below W.heap.size W W') :
    Calls Tryz.prog 135 #[v, .func (.func F) #[] cap] w fun e w' => e = .returned (.int .i64 (firstS (fun g => p g.name) gs)) ∧ Below w.heap.size w w' := by
  have HV := Lib.hid hv
  have Hf := Lib.hid HF
  obtain ⟨A, c, hvv, h1, h2, _⟩ := hv
  subst hvv
  obtain ⟨len, hlen⟩ : ∃ len, gs.length = len := ⟨_, rfl⟩
  have HL := Lib.hid hlen
  rw [hlen] at h1 h63 ⊢
  clear hlen HF h2
  generalize hres : firstS (fun g => p g.name) gs = res at *
  have Hres := Lib.hid hres
  clear hres
  go_enter Tryz.func135, Tryz.ntmps135
  go_wp2_with fail
  go_loopw [8] (fun i wr => ∃ k : Nat, k ≤ len ∧ i = .int .i64 k ∧ Hid (∀ (j : Nat) (g : Glob), j < k → gs[j]? = some g → p g.name = false) ∧ Hid (Below w.heap.size w wr)) (fun i _ => len - (intOf i).toNat)
  case atStart => exact ⟨0, Nat.zero_le _, rfl, Lib.hid (fun j _ h => absurd h (Nat.not_lt_zero j)), Lib.hid (Below.refl _ _)⟩
  case round =>
    obtain ⟨k, hk, rfl, HN, HB⟩ := hrel
    by_cases hlt : k < len
    · obtain ⟨A', c', e, _, _, h3⟩ := HV.out
      obtain ⟨b, off, hA, hbw, hcell⟩ := h3 (by rw [HL.out]; omega)
      cases e
      subst hA
      obtain ⟨⟨gn, gz, gi⟩, hg⟩ : ∃ g, gs[k]? = some g := ⟨gs[k]'(by rw [HL.out]; exact hlt), List.getElem?_eq_getElem _⟩
      obtain ⟨iv, c0, c1, c2, _⟩ := hcell k _ hg
      have c0 := (bcell HB.out hbw).trans c0
      have c1 := (bcell HB.out hbw).trans c1
      have c2 := (bcell HB.out hbw).trans c2
      have Hg := Lib.hid hg
      clear hcell h3 hg
      go_wp2_with fail
      refine (Hf.out gn gz iv _ HB.out).mono ?_
      rintro e w1 ⟨rfl, hb1⟩
      have HB1 := Lib.hid (HB.out.trans (hb1.mono HB.out.size))
      clear hb1
      cases hp : p gn
      · have Hp := Lib.hid hp
        clear hp
        go_wp2_with fail
        go_roundw
        case rel =>
          refine ⟨k + 1, by omega, by go_num, Lib.hid fun j g hj hg => ?_, HB1⟩
          rcases Nat.lt_or_ge j k with h | h
          · exact HN.out j g h hg
          · obtain rfl : j = k := by omega
            rw [Hg.out] at hg
            cases hg
            exact Hp.out
        case measure => simp [intOf]; omega
      · have HR := Lib.hid (firstS_hit (p := fun g => p g.name) Hg.out hp fun j g hj hg => HN.out j g hj hg)
        clear hp
        go_wp2_with fail
        go_ret
        exact ⟨ret_int (HR.out.symm.trans Hres.out), HB1.out⟩
    · have HR := Lib.hid (firstS_none (p := fun g => p g.name) (l := gs) fun j g hg => HN.out j g (by have := (List.getElem?_eq_some_iff.1 hg).1; have := HL.out; omega) hg)
      go_wp2_with fail
      go_ret
      exact ⟨ret_int (HR.out.symm.trans Hres.out), HB.out⟩
set_option maxRecDepth 100000 in
set_option maxHeartbeats 1000000 in
theorem ContainsG_any (F : FuncId) (cap : Array Value) (v : Value) (gs : List Glob) (p : ByteArray → Bool) (w : World) (hv : GlobsAt w w.heap.size v gs) (h63 : gs.length ≤ 9223372036854775807) (hc : ∀ (a : Array Value) (W : World), (callFunc F a).run Tryz.prog W = .ok (.enter F a) W)
    (HF : ∀ (s : ByteArray) (n : Int) (iv : Value) (W : World), Below w.heap.size w W → Calls Tryz.prog F (#[.agg #[.string s, .int .i64 n, iv]] ++ cap) W fun e W' => e = .returned (.bool (p s)) ∧ Below W.heap.size W W') :
    Calls Tryz.prog 98 #[v, .func (.func F) #[] cap] w fun e w' => e = .returned (.bool (gs.any fun g => p g.name)) ∧ Below w.heap.size w w' := by
  have HC := Lib.hid (IndexG_any F cap v gs p w hv h63 hc HF)
  have HA := Lib.hid (firstS_any (fun g => p g.name) gs)
  clear hv h63 hc HF
  generalize firstS (fun g => p g.name) gs = r at *
  generalize (gs.any fun g => p g.name) = bq at *
  go_enter Tryz.func98, Tryz.ntmps98
  go_wp2_with fail
  refine HC.out.mono ?_
  rintro e w1 ⟨rfl, hb1⟩
  have HB1 := Lib.hid hb1
  clear hb1
  go_wp2_with fail
  go_ret
  exact ⟨ret_bool HA.out, HB1.out⟩
set_option maxRecDepth 100000 in
set_option maxHeartbeats 1000000 in
theorem IndexR_any (F : FuncId) (cap : Array Value) (v : Value) (gs : List Rout) (p : ByteArray → Bool) (w : World) (hv : RoutsAt w w.heap.size v gs) (h63 : gs.length ≤ 9223372036854775807) (hc : ∀ (a : Array Value) (W : World), (callFunc F a).run Tryz.prog W = .ok (.enter F a) W)
    (HF : ∀ (s : ByteArray) (iv : Value) (W : World), Below w.heap.size w W → Calls Tryz.prog F (#[.agg #[.string s, iv]] ++ cap) W fun e W' => e = .returned (.bool (p s)) ∧ Below W.heap.size W W') :
    Calls Tryz.prog 136 #[v, .func (.func F) #[] cap] w fun e w' => e = .returned (.int .i64 (firstS (fun g => p g.name) gs)) ∧ Below w.heap.size w w' := by
  have HV := Lib.hid hv
  have Hf := Lib.hid HF
  obtain ⟨A, c, hvv, h1, h2, _⟩ := hv
  subst hvv
  obtain ⟨len, hlen⟩ : ∃ len, gs.length = len := ⟨_, rfl⟩
  have HL := Lib.hid hlen
  rw [hlen] at h1 h63 ⊢
  clear hlen HF h2
  generalize hres : firstS (fun g => p g.name) gs = res at *
  have Hres := Lib.hid hres
  clear hres
  go_enter Tryz.func136, Tryz.ntmps136
  go_wp2_with fail
  go_loopw [8] (fun i wr => ∃ k : Nat, k ≤ len ∧ i = .int .i64 k ∧ Hid (∀ (j : Nat) (g : Rout), j < k → gs[j]? = some g → p g.name = false) ∧ Hid (Below w.heap.size w wr)) (fun i _ => len - (intOf i).toNat)
  case atStart => exact ⟨0, Nat.zero_le _, rfl, Lib.hid (fun j _ h => absurd h (Nat.not_lt_zero j)), Lib.hid (Below.refl _ _)⟩
  case round =>
    obtain ⟨k, hk, rfl, HN, HB⟩ := hrel
    by_cases hlt : k < len
    · obtain ⟨A', c', e, _, _, h3⟩ := HV.out
      obtain ⟨b, off, hA, hbw, hcell⟩ := h3 (by rw [HL.out]; omega)
      cases e
      subst hA
      obtain ⟨⟨gn, gc⟩, hg⟩ : ∃ g, gs[k]? = some g := ⟨gs[k]'(by rw [HL.out]; exact hlt), List.getElem?_eq_getElem _⟩
      obtain ⟨iv, c0, c1, _⟩ := hcell k _ hg
      have c0 := (bcell HB.out hbw).trans c0
      have c1 := (bcell HB.out hbw).trans c1
      have Hg := Lib.hid hg
      clear hcell h3 hg
      go_wp2_with fail
      refine (Hf.out gn iv _ HB.out).mono ?_
      rintro e w1 ⟨rfl, hb1⟩
      have HB1 := Lib.hid (HB.out.trans (hb1.mono HB.out.size))
      clear hb1
      cases hp : p gn
      · have Hp := Lib.hid hp
        clear hp
        go_wp2_with fail
        go_roundw
        case rel =>
          refine ⟨k + 1, by omega, by go_num, Lib.hid fun j g hj hg => ?_, HB1⟩
          rcases Nat.lt_or_ge j k with h | h
          · exact HN.out j g h hg
          · obtain rfl : j = k := by omega
            rw [Hg.out] at hg
            cases hg
            exact Hp.out
        case measure => simp [intOf]; omega
      · have HR := Lib.hid (firstS_hit (p := fun g => p g.name) Hg.out hp fun j g hj hg => HN.out j g hj hg)
        clear hp
        go_wp2_with fail
        go_ret
        exact ⟨ret_int (HR.out.symm.trans Hres.out), HB1.out⟩
    · have HR := Lib.hid (firstS_none (p := fun g => p g.name) (l := gs) fun j g hg => HN.out j g (by have := (List.getElem?_eq_some_iff.1 hg).1; have := HL.out; omega) hg)
      go_wp2_with fail
      go_ret
      exact ⟨ret_int (HR.out.symm.trans Hres.out), HB.out⟩
set_option maxRecDepth 100000 in
set_option maxHeartbeats 1000000 in
theorem ContainsR_any (F : FuncId) (cap : Array Value) (v : Value) (gs : List Rout) (p : ByteArray → Bool) (w : World) (hv : RoutsAt w w.heap.size v gs) (h63 : gs.length ≤ 9223372036854775807) (hc : ∀ (a : Array Value) (W : World), (callFunc F a).run Tryz.prog W = .ok (.enter F a) W)
    (HF : ∀ (s : ByteArray) (iv : Value) (W : World), Below w.heap.size w W → Calls Tryz.prog F (#[.agg #[.string s, iv]] ++ cap) W fun e W' => e = .returned (.bool (p s)) ∧ Below W.heap.size W W') :
    Calls Tryz.prog 100 #[v, .func (.func F) #[] cap] w fun e w' => e = .returned (.bool (gs.any fun g => p g.name)) ∧ Below w.heap.size w w' := by
  have HC := Lib.hid (IndexR_any F cap v gs p w hv h63 hc HF)
  have HA := Lib.hid (firstS_any (fun g => p g.name) gs)
  clear hv h63 hc HF
  generalize firstS (fun g => p g.name) gs = r at *
  generalize (gs.any fun g => p g.name) = bq at *
  go_enter Tryz.func100, Tryz.ntmps100
  go_wp2_with fail
  refine HC.out.mono ?_
  rintro e w1 ⟨rfl, hb1⟩
  have HB1 := Lib.hid hb1
  clear hb1
  go_wp2_with fail
  go_ret
  exact ⟨ret_bool HA.out, HB1.out⟩
set_option maxRecDepth 100000 in
set_option maxHeartbeats 1000000 in
theorem IndexM_any (F : FuncId) (cap : Array Value) (v : Value) (gs : List Mac) (p : Mac → Bool) (w : World) (hv : MacsAt w w.heap.size v gs) (h63 : gs.length ≤ 9223372036854775807) (hc : ∀ (a : Array Value) (W : World), (callFunc F a).run Tryz.prog W = .ok (.enter F a) W)
    (HF : ∀ (m : Mac) (W : World), Below w.heap.size w W → Calls Tryz.prog F (#[.agg #[.int .i64 m.op, .int .i64 m.dst, .int .i64 m.a, .int .i64 m.b, .int .i64 m.n]] ++ cap) W fun e W' => e = .returned (.bool (p m)) ∧ Below W.heap.size W W') :
    Calls Tryz.prog 137 #[v, .func (.func F) #[] cap] w fun e w' => e = .returned (.int .i64 (firstS (fun g => p g) gs)) ∧ Below w.heap.size w w' := by
  have HV := Lib.hid hv
  have Hf := Lib.hid HF
  obtain ⟨A, c, hvv, h1, h2, _⟩ := hv
  subst hvv
  obtain ⟨len, hlen⟩ : ∃ len, gs.length = len := ⟨_, rfl⟩
  have HL := Lib.hid hlen
  rw [hlen] at h1 h63 ⊢
  clear hlen HF h2
  generalize hres : firstS (fun g => p g) gs = res at *
  have Hres := Lib.hid hres
  clear hres
  go_enter Tryz.func137, Tryz.ntmps137
  go_wp2_with fail
  go_loopw [8] (fun i wr => ∃ k : Nat, k ≤ len ∧ i = .int .i64 k ∧ Hid (∀ (j : Nat) (g : Mac), j < k → gs[j]? = some g → p g = false) ∧ Hid (Below w.heap.size w wr)) (fun i _ => len - (intOf i).toNat)
  case atStart => exact ⟨0, Nat.zero_le _, rfl, Lib.hid (fun j _ h => absurd h (Nat.not_lt_zero j)), Lib.hid (Below.refl _ _)⟩
  case round =>
    obtain ⟨k, hk, rfl, HN, HB⟩ := hrel
    by_cases hlt : k < len
    · obtain ⟨A', c', e, _, _, h3⟩ := HV.out
      obtain ⟨b, off, hA, hbw, hcell⟩ := h3 (by rw [HL.out]; omega)
      cases e
      subst hA
      obtain ⟨⟨mo, md, ma, mb, mn⟩, hg⟩ : ∃ g, gs[k]? = some g := ⟨gs[k]'(by rw [HL.out]; exact hlt), List.getElem?_eq_getElem _⟩
      obtain ⟨c0, c1, c2, c3, c4⟩ := (hcell k _ hg).below HB.out hbw
      have Hg := Lib.hid hg
      clear hcell h3 hg
      go_wp2_with fail
      refine (Hf.out ⟨mo, md, ma, mb, mn⟩ _ HB.out).mono ?_
      rintro e w1 ⟨rfl, hb1⟩
      have HB1 := Lib.hid (HB.out.trans (hb1.mono HB.out.size))
      clear hb1
      cases hp : p ⟨mo, md, ma, mb, mn⟩
      · have Hp := Lib.hid hp
        clear hp
        go_wp2_with fail
        go_roundw
        case rel =>
          refine ⟨k + 1, by omega, by go_num, Lib.hid fun j g hj hg => ?_, HB1⟩
          rcases Nat.lt_or_ge j k with h | h
          · exact HN.out j g h hg
          · obtain rfl : j = k := by omega
            rw [Hg.out] at hg
            cases hg
            exact Hp.out
        case measure => simp [intOf]; omega
      · have HR := Lib.hid (firstS_hit (p := fun g => p g) Hg.out hp fun j g hj hg => HN.out j g hj hg)
        clear hp
        go_wp2_with fail
        go_ret
        exact ⟨ret_int (HR.out.symm.trans Hres.out), HB1.out⟩
    · have HR := Lib.hid (firstS_none (p := fun g => p g) (l := gs) fun j g hg => HN.out j g (by have := (List.getElem?_eq_some_iff.1 hg).1; have := HL.out; omega) hg)
      go_wp2_with fail
      go_ret
      exact ⟨ret_int (HR.out.symm.trans Hres.out), HB.out⟩
set_option maxRecDepth 100000 in
set_option maxHeartbeats 1000000 in
theorem ContainsM_any (F : FuncId) (cap : Array Value) (v : Value) (gs : List Mac) (p : Mac → Bool) (w : World) (hv : MacsAt w w.heap.size v gs) (h63 : gs.length ≤ 9223372036854775807) (hc : ∀ (a : Array Value) (W : World), (callFunc F a).run Tryz.prog W = .ok (.enter F a) W)
    (HF : ∀ (m : Mac) (W : World), Below w.heap.size w W → Calls Tryz.prog F (#[.agg #[.int .i64 m.op, .int .i64 m.dst, .int .i64 m.a, .int .i64 m.b, .int .i64 m.n]] ++ cap) W fun e W' => e = .returned (.bool (p m)) ∧ Below W.heap.size W W') :
    Calls Tryz.prog 103 #[v, .func (.func F) #[] cap] w fun e w' => e = .returned (.bool (gs.any fun g => p g)) ∧ Below w.heap.size w w' := by
  have HC := Lib.hid (IndexM_any F cap v gs p w hv h63 hc HF)
  have HA := Lib.hid (firstS_any (fun g => p g) gs)
  clear hv h63 hc HF
  generalize firstS (fun g => p g) gs = r at *
  generalize (gs.any fun g => p g) = bq at *
  go_enter Tryz.func103, Tryz.ntmps103
  go_wp2_with fail
  refine HC.out.mono ?_
  rintro e w1 ⟨rfl, hb1⟩
  have HB1 := Lib.hid hb1
  clear hb1
  go_wp2_with fail
  go_ret
  exact ⟨ret_bool HA.out, HB1.out⟩
end Go.Proofs.YtdldochhondifaaGreatDoor
namespace Go.Proofs.YtdldochhondifaaGreatDoor
open Go.RowKit

def sumG (gs : List Glob) : Int := (gs.map fun g => g.size).foldl (· + ·) 0
theorem sumG_snoc (gs : List Glob) (k : Nat) (g : Glob) (h : gs[k]? = some g) : sumG (gs.take (k + 1)) = sumG (gs.take k) + g.size := by
  unfold sumG
  have hlt := (List.getElem?_eq_some_iff.1 h).1
  rw [List.take_succ_eq_append_getElem hlt, (List.getElem?_eq_some_iff.1 h).2, List.map_append, List.foldl_append]
  rfl
/-- What is wrong with a global, those ahead of it given. -/
def gBad (pre : List Glob) (g : Glob) : Int :=
  if nameS g.name = false then 12 else if (pre.any fun h => h.name.toList == g.name.toList) = true then 7 else if ¬ (1 ≤ g.size ∧ g.size ≤ 200) then 3
  else if g.size < (g.init.length : Int) then 9 else if 200 < sumG pre + g.size then 10 else 0
def gBadAt (gs : List Glob) (k : Nat) : Int := match gs[k]? with
  | some g => gBad (gs.take k) g
  | none => 0
/-- The first fault of a row of places. -/
def firstBad (bad : Nat → Int) (n : Nat) : Int × Int := match (List.range n).find? (fun i => bad i != 0) with
  | some i => (bad i, (i : Int))
  | none => (0, 0)
theorem firstBad_hit {bad : Nat → Int} {n k : Nat} (hk : k < n) (h : bad k ≠ 0) (hb : ∀ j, j < k → bad j = 0) : firstBad bad n = (bad k, (k : Int)) := by
  have : (List.range n).find? (fun i => bad i != 0) = some k := by
    rw [List.find?_eq_some_iff_getElem]
    refine ⟨by simpa using h, k, by simpa using hk, by simp, fun j hj => ?_⟩
    simp [hb j hj]
  unfold firstBad
  rw [this]
theorem firstBad_ok {bad : Nat → Int} {n : Nat} (hb : ∀ j, j < n → bad j = 0) : firstBad bad n = (0, 0) := by
  have : (List.range n).find? (fun i => bad i != 0) = none := by
    rw [List.find?_eq_none]
    intro j hj
    simp [hb j (by simpa using hj)]
  unfold firstBad
  rw [this]
def globF (gs : List Glob) : Int × Int := if 10 < gs.length then (2, 0) else firstBad (gBadAt gs) gs.length
theorem globF_hit {gs : List Glob} {k : Nat} {g : Glob} (hl : gs.length ≤ 10) (hk : gs[k]? = some g) (h : gBad (gs.take k) g ≠ 0) (hb : ∀ j, j < k → gBadAt gs j = 0) : globF gs = (gBad (gs.take k) g, (k : Int)) := by
  have e : gBadAt gs k = gBad (gs.take k) g := by unfold gBadAt; rw [hk]
  unfold globF
  rw [if_neg (by omega), firstBad_hit (List.getElem?_eq_some_iff.1 hk).1 (by rw [e]; exact h) hb, e]
theorem globF_ok {gs : List Glob} (hl : gs.length ≤ 10) (hb : ∀ j, j < gs.length → gBadAt gs j = 0) : globF gs = (0, 0) := by
  unfold globF
  rw [if_neg (by omega), firstBad_ok hb]
theorem gBad_name {pre : List Glob} {g : Glob} (h : nameS g.name = false) : gBad pre g = 12 := by unfold gBad; rw [if_pos h]
theorem gBad_had {pre : List Glob} {g : Glob} (h : nameS g.name = true) (h2 : (pre.any fun h => h.name.toList == g.name.toList) = true) : gBad pre g = 7 := by unfold gBad; rw [if_neg (by rw [h]; simp), if_pos h2]
theorem gBad_range {pre : List Glob} {g : Glob} (h : nameS g.name = true) (h2 : (pre.any fun h => h.name.toList == g.name.toList) = false) (h3 : ¬ (1 ≤ g.size ∧ g.size ≤ 200)) : gBad pre g = 3 := by
  unfold gBad; rw [if_neg (by rw [h]; simp), if_neg (by rw [h2]; simp), if_pos h3]
theorem gBad_size {pre : List Glob} {g : Glob} (h : nameS g.name = true) (h2 : (pre.any fun h => h.name.toList == g.name.toList) = false) (h3 : 1 ≤ g.size ∧ g.size ≤ 200) (h4 : g.size < (g.init.length : Int)) : gBad pre g = 9 := by
  unfold gBad; rw [if_neg (by rw [h]; simp), if_neg (by rw [h2]; simp), if_neg (by simpa using h3), if_pos h4]
theorem gBad_much {pre : List Glob} {g : Glob} (h : nameS g.name = true) (h2 : (pre.any fun h => h.name.toList == g.name.toList) = false) (h3 : 1 ≤ g.size ∧ g.size ≤ 200) (h4 : ¬ g.size < (g.init.length : Int)) (h5 : 200 < sumG pre + g.size) : gBad pre g = 10 := by
  unfold gBad; rw [if_neg (by rw [h]; simp), if_neg (by rw [h2]; simp), if_neg (by simpa using h3), if_neg h4, if_pos h5]
theorem gBad_ok {pre : List Glob} {g : Glob} (h : nameS g.name = true) (h2 : (pre.any fun h => h.name.toList == g.name.toList) = false) (h3 : 1 ≤ g.size ∧ g.size ≤ 200) (h4 : ¬ g.size < (g.init.length : Int)) (h5 : ¬ 200 < sumG pre + g.size) : gBad pre g = 0 := by
  unfold gBad; rw [if_neg (by rw [h]; simp), if_neg (by rw [h2]; simp), if_neg (by simpa using h3), if_neg h4, if_neg h5]
theorem GlobsAt.take {w : World} {B len c : Nat} {A : Option Addr} {gs : List Glob} (h : GlobsAt w B (.slice A len c) gs) {k : Nat} (hk : k ≤ len) : GlobsAt w B (.slice A k c) (gs.take k) := by
  obtain ⟨A', c', e, h1, h2, h3⟩ := h
  have hl : gs.length = len := by cases e; rfl
  have hlk : (gs.take k).length = k := by rw [List.length_take]; omega
  refine ⟨A, c, by rw [hlk], ?_, ?_, fun hp => ?_⟩
  · cases e; rw [hlk]; omega
  · cases e; exact h2
  · obtain ⟨b, off, e1, e2, e3⟩ := h3 (by rw [hlk] at hp; omega)
    cases e
    refine ⟨b, off, e1, e2, fun j g hj => e3 j g ?_⟩
    rw [List.getElem?_take] at hj
    split at hj
    · exact hj
    · cases hj

set_option maxRecDepth 100000 in
set_option maxHeartbeats 1000000 in
theorem sameName_any (s gn : ByteArray) (n : Int) (iv : Value) (gb : Nat) (w : World) (hc : w.cell? ⟨gb, 0, none⟩ = some (.string gn)) (hb : gb < w.heap.size) :
    Calls Tryz.prog 134 #[.agg #[.string s, .int .i64 n, iv], .pointer (some ⟨gb, 0, none⟩)] w fun e w' => e = .returned (.bool (s.toList == gn.toList)) ∧ Below w.heap.size w w' := by
  go_enter Tryz.func134, Tryz.ntmps134
  go_wp2_with fail
  go_ret
  exact ⟨rfl, (Below.refl _ _).alloc (Nat.le_refl _) _⟩

def GlobPost (w : World) (f : Int × Int) (e : Ending) (w' : World) : Prop := ∃ n : Int, e = .returned (.tuple #[.int .i64 n, .agg #[.int .i64 f.1, .int .i64 f.2]]) ∧ Below w.heap.size w w'
set_option maxRecDepth 100000 in
set_option maxHeartbeats 2000000 in
theorem Globals_any (v : Value) (gs : List Glob) (w : World) (hv : GlobsAt w w.heap.size v gs) (hsz : ∀ g ∈ gs, g.name.size ≤ 9223372036854775807 ∧ I64 g.size) :
    Calls Tryz.prog 97 #[v] w (GlobPost w (globF gs)) := by
  have HV := Lib.hid hv
  have HSz := Lib.hid hsz
  obtain ⟨A, c, hvv, hlc, h63, _⟩ := hv
  subst hvv
  obtain ⟨len, hlen⟩ : ∃ len, gs.length = len := ⟨_, rfl⟩
  have HL := Lib.hid hlen
  rw [hlen] at hlc HV ⊢
  clear hlen hsz
  by_cases hbig : 10 < len
  · have HE : Hid (globF gs = (2, 0)) := Lib.hid (by unfold globF; rw [if_pos (by rw [HL.out]; exact hbig)])
    go_enter Tryz.func97, Tryz.ntmps97
    go_wp2_with fail
    exact end_tmp_cell rfl rfl (Blk.new _ _ _) Tryz.underlying24 rfl (by kernel_rfl) rfl ⟨0, by rw [HE.out]; rfl, (Below.refl _ _).alloc (Nat.le_refl _) _⟩
  · have HBig := Lib.hid hbig
    have hl10 : len ≤ 10 := by omega
    have HW0 : Hid (Below w.heap.size w (w.alloc (.cells #[.int .i64 0, .int .i64 0] 24))) := Lib.hid ((Below.refl _ _).alloc (Nat.le_refl _) _)
    have HK0 : Hid (Blk (w.alloc (.cells #[.int .i64 0, .int .i64 0] 24)) w.heap.size 24 #[.int .i64 0, .int .i64 0]) := Lib.hid (Blk.new w _ _)
    clear hbig
    go_enter Tryz.func97, Tryz.ntmps97
    go_wp2_with fail
    generalize w.alloc (.cells #[.int .i64 0, .int .i64 0] 24) = W at *
    go_loopw [4, 14] (fun n i wr => ∃ (k : Nat) (z : Int), k ≤ len ∧ i = .int .i64 k ∧ n = .int .i64 z ∧ Hid (z = sumG (gs.take k)) ∧ 0 ≤ z ∧ z ≤ 200 ∧ Hid (∀ j, j < k → gBadAt gs j = 0) ∧ Hid (Blk wr w.heap.size 24 #[.int .i64 0, .int .i64 0]) ∧ Hid (Below w.heap.size w wr)) (fun _ i _ => len - (intOf i).toNat)
    case atStart => exact ⟨0, 0, Nat.zero_le _, rfl, rfl, Lib.hid rfl, by omega, by omega, Lib.hid (fun j h => absurd h (Nat.not_lt_zero j)), HK0, HW0⟩
    case round =>
      obtain ⟨k, z, hk, rfl, rfl, Hz, hz0, hz1, HN, HK, HB⟩ := hrel
      clear HW0 HK0
      have hzw : w.heap.size < wr.heap.size := HK.out.lt
      by_cases hlt : k < len
      · obtain ⟨A', c', e, _, _, h3⟩ := HV.out
        obtain ⟨b, off, hA, hbw, hcell⟩ := h3 (by rw [HL.out]; omega)
        obtain rfl : A' = A := ((Value.slice.inj e).1).symm
        clear e
        subst hA
        obtain ⟨⟨gn, gz, gi⟩, hg⟩ : ∃ g, gs[k]? = some g := ⟨gs[k]'(by rw [HL.out]; exact hlt), List.getElem?_eq_getElem _⟩
        obtain ⟨iv, c0, c1, c2, hiv⟩ := hcell k _ hg
        have c0 := (bcell HB.out hbw).trans c0
        have c1 := (bcell HB.out hbw).trans c1
        have c2 := (bcell HB.out hbw).trans c2
        obtain ⟨Ai, ci, hivv, hic, hi63, _⟩ := hiv
        subst hivv
        obtain ⟨il, hil⟩ : ∃ il, gi.length = il := ⟨_, rfl⟩
        have Hil := Lib.hid hil
        simp only at c0 c1 c2 hic
        rw [hil] at c2 hic
        have Hg := Lib.hid hg
        obtain ⟨hns, hgi⟩ := HSz.out _ (List.mem_of_getElem? hg)
        have hns' : gn.size ≤ 9223372036854775807 := hns
        have hgz0 : -9223372036854775808 ≤ gz := hgi.1
        have hgz1 : gz ≤ 9223372036854775807 := hgi.2
        have HGb : Hid (Blk (wr.alloc (.cells #[.string gn, .int .i64 gz, .slice Ai il ci] 79)) wr.heap.size 79 #[.string gn, .int .i64 gz, .slice Ai il ci]) := Lib.hid (Blk.new _ _ _)
        have HB1 := Lib.hid (HB.out.alloc (Nat.le_of_lt hzw) (.cells #[.string gn, .int .i64 gz, .slice Ai il ci] 79))
        have HK1 := Lib.hid (HK.out.alloc (.cells #[.string gn, .int .i64 gz, .slice Ai il ci] 79))
        clear hcell h3 hg hil hns hgi
        go_wp2_with fail
        refine (ContainsG_any 134 #[.pointer (some ⟨wr.heap.size, 0, none⟩)] _ (gs.take k) (fun s => s.toList == gn.toList) _ (((HV.out.take (Nat.le_of_lt hlt)).below HB1.out (Nat.le_refl _)).more HB1.out.size) (by rw [List.length_take]; omega) (fun a W => MuLone.run_callFunc_enter Tryz.func134 (by kernel_rfl) rfl a W) (fun s n iv W hW => ?_)).mono ?_
        · have hlt' := HGb.out.lt
          have := sameName_any s gn n iv wr.heap.size W ((HGb.out.below hW hlt').cell 0) (Nat.lt_of_lt_of_le hlt' hW.size)
          simpa using this
        rintro e w2 ⟨rfl, hb2⟩
        have hg2 := HGb.out.below hb2 HGb.out.lt
        have hk2 := HK1.out.below hb2 HK1.out.lt
        have HB2 := Lib.hid (HB1.out.trans (hb2.mono HB1.out.size))
        have r0 := hg2.cell 0
        have r1 := hg2.cell 1
        have r2 := hg2.cell 2
        have q0 := hk2.cell 0
        have q1 := hk2.cell 1
        have k0 := hk2.frozen 0
        have k1 := hk2.frozen 1
        have HK2 := Lib.hid hk2
        obtain ⟨bh, hbh⟩ : ∃ bh, ((gs.take k).any fun h => h.name.toList == gn.toList) = bh := ⟨_, rfl⟩
        have Hbh := Lib.hid hbh
        rw [hbh]
        clear hb2 hg2 hk2 hbh c0 c1 c2
        go_wp2_with fail
        refine (Name_any gn _ hns').mono ?_
        rintro e w' ⟨rfl, rfl⟩
        cases hnm : nameS gn
        · have HE : Hid (globF gs = (12, (k : Int))) := Lib.hid (by
            have e1 := gBad_name (pre := gs.take k) (g := ⟨gn, gz, gi⟩) hnm
            rw [globF_hit (by rw [HL.out]; exact hl10) Hg.out (by rw [e1]; decide) HN.out, e1])
          clear hnm
          go_wp2_with fail
          refine end_tmp_cell rfl rfl (HK2.out.set2 _ _) Tryz.underlying24 rfl (by kernel_rfl) rfl ⟨0, by rw [HE.out]; rfl, (HB2.out.setCell (by simp) _).setCell (by simp) _⟩
        · have Hnm := Lib.hid hnm
          clear hnm
          cases bh
          · by_cases hr : 1 ≤ gz ∧ gz ≤ 200
            · have Hr := Lib.hid hr
              obtain ⟨hr1, hr2⟩ := hr
              have hwi := Within_any gz 1 200 w2
              rw [show decide (1 ≤ gz ∧ gz ≤ 200) = true by rw [decide_eq_true_eq]; exact Hr.out] at hwi
              have HWi := Lib.hid hwi
              clear hwi
              go_wp2_with fail
              refine HWi.out.mono ?_
              rintro e w' ⟨rfl, rfl⟩
              by_cases hil : gz < (il : Int)
              · have HE : Hid (globF gs = (9, (k : Int))) := Lib.hid (by
                  have e1 := gBad_size (pre := gs.take k) (g := ⟨gn, gz, gi⟩) Hnm.out Hbh.out Hr.out (by simp only; rw [Hil.out]; exact hil)
                  rw [globF_hit (by rw [HL.out]; exact hl10) Hg.out (by rw [e1]; decide) HN.out, e1])
                go_wp2_with fail
                refine end_tmp_cell rfl rfl (HK2.out.set2 _ _) Tryz.underlying24 rfl (by kernel_rfl) rfl ⟨0, by rw [HE.out]; rfl, (HB2.out.setCell (by simp) _).setCell (by simp) _⟩
              · by_cases hmu : 200 < z + gz
                · have HE : Hid (globF gs = (10, (k : Int))) := Lib.hid (by
                    have e1 := gBad_much (pre := gs.take k) (g := ⟨gn, gz, gi⟩) Hnm.out Hbh.out Hr.out (by simp only; rw [Hil.out]; exact hil) (by simp only; rw [← Hz.out]; exact hmu)
                    rw [globF_hit (by rw [HL.out]; exact hl10) Hg.out (by rw [e1]; decide) HN.out, e1])
                  go_wp2_with fail
                  refine end_tmp_cell rfl rfl (HK2.out.set2 _ _) Tryz.underlying24 rfl (by kernel_rfl) rfl ⟨0, by rw [HE.out]; rfl, (HB2.out.setCell (by simp) _).setCell (by simp) _⟩
                · have HN2 : Hid (∀ j, j < k + 1 → gBadAt gs j = 0) := Lib.hid fun j hj => by
                    rcases Nat.lt_or_ge j k with h | h
                    · exact HN.out j h
                    · obtain rfl : j = k := by omega
                      have e1 := gBad_ok (pre := gs.take j) (g := ⟨gn, gz, gi⟩) Hnm.out Hbh.out Hr.out (by simp only; rw [Hil.out]; exact hil) (by simp only; rw [← Hz.out]; exact hmu)
                      unfold gBadAt
                      rw [Hg.out]
                      exact e1
                  have Hz2 : Hid (z + gz = sumG (gs.take (k + 1))) := Lib.hid (by rw [sumG_snoc gs k _ Hg.out, ← Hz.out])
                  go_wp2_with fail
                  go_roundw
                  case rel => exact ⟨k + 1, z + gz, by omega, by go_num, rfl, Hz2, by omega, by omega, HN2, HK2, HB2⟩
                  case measure => simp [intOf]; omega
            · have HE : Hid (globF gs = (3, (k : Int))) := Lib.hid (by
                have e1 := gBad_range (pre := gs.take k) (g := ⟨gn, gz, gi⟩) Hnm.out Hbh.out hr
                rw [globF_hit (by rw [HL.out]; exact hl10) Hg.out (by rw [e1]; decide) HN.out, e1])
              have hwi := Within_any gz 1 200 w2
              rw [show decide (1 ≤ gz ∧ gz ≤ 200) = false by rw [decide_eq_false_iff_not]; exact hr] at hwi
              have HWi := Lib.hid hwi
              clear hwi hr
              go_wp2_with fail
              refine HWi.out.mono ?_
              rintro e w' ⟨rfl, rfl⟩
              go_wp2_with fail
              refine end_tmp_cell rfl rfl (HK2.out.set2 _ _) Tryz.underlying24 rfl (by kernel_rfl) rfl ⟨0, by rw [HE.out]; rfl, (HB2.out.setCell (by simp) _).setCell (by simp) _⟩
          · have HE : Hid (globF gs = (7, (k : Int))) := Lib.hid (by
              have e1 := gBad_had (pre := gs.take k) (g := ⟨gn, gz, gi⟩) Hnm.out Hbh.out
              rw [globF_hit (by rw [HL.out]; exact hl10) Hg.out (by rw [e1]; decide) HN.out, e1])
            go_wp2_with fail
            refine end_tmp_cell rfl rfl (HK2.out.set2 _ _) Tryz.underlying24 rfl (by kernel_rfl) rfl ⟨0, by rw [HE.out]; rfl, (HB2.out.setCell (by simp) _).setCell (by simp) _⟩
      · have HE := Lib.hid (globF_ok (gs := gs) (by rw [HL.out]; exact hl10) fun j hj => HN.out j (by have := HL.out; omega))
        have q0 := HK.out.cell 0
        have q1 := HK.out.cell 1
        have k0 := HK.out.frozen 0
        have k1 := HK.out.frozen 1
        go_wp2_with fail
        exact end_tmp_cell rfl rfl (HK.out.set2 _ _) Tryz.underlying24 rfl (by kernel_rfl) rfl ⟨_, by rw [HE.out]; rfl, (HB.out.setCell (by simp) _).setCell (by simp) _⟩
end Go.Proofs.YtdldochhondifaaGreatDoor
namespace Go.Proofs.YtdldochhondifaaGreatDoor
open Go.RowKit

theorem had_no {gs : List Glob} {k : Nat} {gn : ByteArray} (h : ∀ (j : Nat) (g : Glob), j < k → gs[j]? = some g → (g.name.toList == gn.toList) = false) : ((gs.take k).any fun g => g.name.toList == gn.toList) = false := by
  rw [List.any_eq_false]
  intro g hg
  obtain ⟨j, hj⟩ := List.mem_iff_getElem?.1 hg
  rw [List.getElem?_take] at hj
  split at hj
  · rename_i hlt
    rw [h j g hlt hj]
    simp
  · cases hj
theorem had_yes {gs : List Glob} {k j : Nat} {gn : ByteArray} {g : Glob} (hj : j < k) (hg : gs[j]? = some g) (h : (g.name.toList == gn.toList) = true) : ((gs.take k).any fun g => g.name.toList == gn.toList) = true := by
  rw [List.any_eq_true]
  refine ⟨g, List.mem_of_getElem? (i := j) ?_, h⟩
  rw [List.getElem?_take, if_pos hj]
  exact hg
set_option maxRecDepth 100000 in
set_option maxHeartbeats 2000000 in
theorem GlobalsFault_any (v : Value) (gs : List Glob) (w : World) (hv : GlobsAt w w.heap.size v gs) (hsz : ∀ g ∈ gs, g.name.size ≤ 9223372036854775807 ∧ I64 g.size) :
    Calls Tryz.prog 90 #[v] w fun e w' => e = .returned (.agg #[.int .i64 (globF gs).1, .int .i64 (globF gs).2]) ∧ Below w.heap.size w w' := by
  have HV := Lib.hid hv
  have HSz := Lib.hid hsz
  obtain ⟨A, c, hvv, hlc, h63, _⟩ := hv
  subst hvv
  obtain ⟨len, hlen⟩ : ∃ len, gs.length = len := ⟨_, rfl⟩
  have HL := Lib.hid hlen
  rw [hlen] at hlc HV ⊢
  clear hlen hsz
  by_cases hbig : 10 < len
  · have HE : Hid (globF gs = (2, 0)) := Lib.hid (by unfold globF; rw [if_pos (by rw [HL.out]; exact hbig)])
    go_enter Tryz.func90, Tryz.ntmps90
    go_wp2_with fail
    exact end_cell rfl rfl (Blk.new _ _ _) Tryz.underlying24 rfl (by kernel_rfl) rfl ⟨by rw [HE.out], (Below.refl _ _).alloc (Nat.le_refl _) _⟩
  · have HBig := Lib.hid hbig
    have hl10 : len ≤ 10 := by omega
    have HW0 : Hid (Below w.heap.size w (w.alloc (.cells #[.int .i64 0, .int .i64 0] 24))) := Lib.hid ((Below.refl _ _).alloc (Nat.le_refl _) _)
    have HK0 : Hid (Blk (w.alloc (.cells #[.int .i64 0, .int .i64 0] 24)) w.heap.size 24 #[.int .i64 0, .int .i64 0]) := Lib.hid (Blk.new w _ _)
    clear hbig
    go_enter Tryz.func90, Tryz.ntmps90
    go_wp2_with fail
    generalize w.alloc (.cells #[.int .i64 0, .int .i64 0] 24) = W at *
    go_loopw [3, 4] (fun n i wr => ∃ (k : Nat) (z : Int), k ≤ len ∧ i = .int .i64 k ∧ n = .int .i64 z ∧ Hid (z = sumG (gs.take k)) ∧ 0 ≤ z ∧ z ≤ 200 ∧ Hid (∀ j, j < k → gBadAt gs j = 0) ∧ Hid (Blk wr w.heap.size 24 #[.int .i64 0, .int .i64 0]) ∧ Hid (Below w.heap.size w wr)) (fun _ i _ => len - (intOf i).toNat)
    case atStart => exact ⟨0, 0, Nat.zero_le _, rfl, rfl, Lib.hid rfl, by omega, by omega, Lib.hid (fun j h => absurd h (Nat.not_lt_zero j)), HK0, HW0⟩
    case round =>
      obtain ⟨k, z, hk, rfl, rfl, Hz, hz0, hz1, HN, HK, HB⟩ := hrel
      clear HW0 HK0
      have hzw : w.heap.size < wr.heap.size := HK.out.lt
      have q0 := HK.out.cell 0
      have q1 := HK.out.cell 1
      have k0 := HK.out.frozen 0
      have k1 := HK.out.frozen 1
      by_cases hlt : k < len
      · obtain ⟨A', c', e, _, _, h3⟩ := HV.out
        obtain ⟨b, off, hA, hbw, hcell⟩ := h3 (by rw [HL.out]; omega)
        obtain rfl : A' = A := ((Value.slice.inj e).1).symm
        clear e
        subst hA
        obtain ⟨⟨gn, gz, gi⟩, hg⟩ : ∃ g, gs[k]? = some g := ⟨gs[k]'(by rw [HL.out]; exact hlt), List.getElem?_eq_getElem _⟩
        have HCell := Lib.hid (fun (j : Nat) (g : Glob) (h : gs[j]? = some g) => (bcell HB.out hbw (o := off + j * 3)).trans (by obtain ⟨_, c0, _⟩ := hcell j g h; exact c0) : ∀ (j : Nat) (g : Glob), gs[j]? = some g → wr.cell? ⟨b, off + j * 3, none⟩ = some (.string g.name))
        obtain ⟨iv, c0, c1, c2, hiv⟩ := hcell k _ hg
        have c0 := (bcell HB.out hbw).trans c0
        have c1 := (bcell HB.out hbw).trans c1
        have c2 := (bcell HB.out hbw).trans c2
        obtain ⟨Ai, ci, hivv, hic, hi63, _⟩ := hiv
        subst hivv
        obtain ⟨il, hil⟩ : ∃ il, gi.length = il := ⟨_, rfl⟩
        have Hil := Lib.hid hil
        simp only at c0 c1 c2 hic
        rw [hil] at c2 hic
        have Hg := Lib.hid hg
        obtain ⟨hns, hgi⟩ := HSz.out _ (List.mem_of_getElem? hg)
        have hns' : gn.size ≤ 9223372036854775807 := hns
        have hgz0 : -9223372036854775808 ≤ gz := hgi.1
        have hgz1 : gz ≤ 9223372036854775807 := hgi.2
        clear hcell h3 hg hil hns hgi
        go_wp2_with fail
        refine (GoodName_any gn _ hns').mono ?_
        rintro e w' ⟨rfl, rfl⟩
        cases hnm : nameS gn
        · have HE : Hid (globF gs = (12, (k : Int))) := Lib.hid (by
            have e1 := gBad_name (pre := gs.take k) (g := ⟨gn, gz, gi⟩) hnm
            rw [globF_hit (by rw [HL.out]; exact hl10) Hg.out (by rw [e1]; decide) HN.out, e1])
          clear hnm
          go_wp2_with fail
          exact end_cell rfl rfl (HK.out.set2 _ _) Tryz.underlying24 rfl (by kernel_rfl) rfl ⟨by rw [HE.out], (HB.out.setCell (by simp) _).setCell (by simp) _⟩
        · have Hnm := Lib.hid hnm
          clear hnm
          go_wp2_with fail
          obtain ⟨wo, hwo⟩ : ∃ wo : World, wo = wr := ⟨_, rfl⟩
          subst hwo
          go_loopw [5] (fun q wx => ∃ (j n : Nat), j ≤ k ∧ q = .int .i64 j ∧ Hid (∀ (i : Nat) (g : Glob), i < j → gs[i]? = some g → (g.name.toList == gn.toList) = false) ∧ wx = wo.drewN n) (fun q _ => k - (intOf q).toNat)
          case atStart => exact ⟨0, 0, Nat.zero_le _, rfl, Lib.hid (fun i _ h => absurd h (Nat.not_lt_zero i)), rfl⟩
          case round =>
            obtain ⟨j, n, hj, rfl, HF, rfl⟩ := hrel
            by_cases hjk : j < k
            · obtain ⟨⟨hn, hz, hi⟩, hh⟩ : ∃ g, gs[j]? = some g := ⟨gs[j]'(by rw [HL.out]; omega), List.getElem?_eq_getElem _⟩
              have d0 := HCell.out j _ hh
              have Hh := Lib.hid hh
              simp only at d0
              have hj0 : (0 : Int) ≤ (j : Int) := Int.natCast_nonneg j
              have hj1 : (j : Int) < (len : Int) := by omega
              have hk0 : (0 : Int) ≤ (k : Int) := Int.natCast_nonneg k
              have hk1 : (k : Int) < (len : Int) := by omega
              clear hh
              cases heq : (hn.toList == gn.toList)
              · have Heq := Lib.hid heq
                go_wp2_with fail
                go_quiet (fail)
                go_wp2_with fail
                go_roundw
                case rel =>
                  refine ⟨j + 1, _, by omega, by go_num, Lib.hid fun i g hi' hg' => ?_, rfl⟩
                  rcases Nat.lt_or_ge i j with h | h
                  · exact HF.out i g h hg'
                  · obtain rfl : i = j := by omega
                    rw [Hh.out] at hg'
                    cases hg'
                    exact Heq.out
                case measure => simp [intOf]; omega
              · have HE : Hid (globF gs = (7, (k : Int))) := Lib.hid (by
                  have e1 := gBad_had (pre := gs.take k) (g := ⟨gn, gz, gi⟩) Hnm.out (had_yes hjk Hh.out heq)
                  rw [globF_hit (by rw [HL.out]; exact hl10) Hg.out (by rw [e1]; decide) HN.out, e1])
                go_wp2_with fail
                go_quiet (fail)
                go_wp2_with fail
                exact end_cell rfl rfl ((show Blk (wo.drewN _) _ _ _ from HK.out).set2 _ _) Tryz.underlying24 rfl (by kernel_rfl) rfl ⟨by rw [HE.out], ((below_drewN HB.out _).setCell (by simp) _).setCell (by simp) _⟩
            · obtain rfl : j = k := by omega
              have Hbh := Lib.hid (had_no HF.out)
              have hk0 : (0 : Int) ≤ (j : Int) := Int.natCast_nonneg j
              have hk1 : (j : Int) < (len : Int) := by omega
              by_cases hr : 1 ≤ gz ∧ gz ≤ 200
              · have Hr := Lib.hid hr
                obtain ⟨hr1, hr2⟩ := hr
                by_cases hil : gz < (il : Int)
                · have HE : Hid (globF gs = (9, (j : Int))) := Lib.hid (by
                    have e1 := gBad_size (pre := gs.take j) (g := ⟨gn, gz, gi⟩) Hnm.out Hbh.out Hr.out (by simp only; rw [Hil.out]; exact hil)
                    rw [globF_hit (by rw [HL.out]; exact hl10) Hg.out (by rw [e1]; decide) HN.out, e1])
                  go_wp2_with fail
                  go_quiet (fail)
                  go_wp2_with fail
                  exact end_cell rfl rfl ((show Blk (wo.drewN _) _ _ _ from HK.out).set2 _ _) Tryz.underlying24 rfl (by kernel_rfl) rfl ⟨by rw [HE.out], ((below_drewN HB.out _).setCell (by simp) _).setCell (by simp) _⟩
                · by_cases hmu : 200 < z + gz
                  · have HE : Hid (globF gs = (10, (j : Int))) := Lib.hid (by
                      have e1 := gBad_much (pre := gs.take j) (g := ⟨gn, gz, gi⟩) Hnm.out Hbh.out Hr.out (by simp only; rw [Hil.out]; exact hil) (by simp only; rw [← Hz.out]; exact hmu)
                      rw [globF_hit (by rw [HL.out]; exact hl10) Hg.out (by rw [e1]; decide) HN.out, e1])
                    go_wp2_with fail
                    go_quiet (fail)
                    go_wp2_with fail
                    exact end_cell rfl rfl ((show Blk (wo.drewN _) _ _ _ from HK.out).set2 _ _) Tryz.underlying24 rfl (by kernel_rfl) rfl ⟨by rw [HE.out], ((below_drewN HB.out _).setCell (by simp) _).setCell (by simp) _⟩
                  · have HN2 : Hid (∀ i, i < j + 1 → gBadAt gs i = 0) := Lib.hid fun i hi => by
                      rcases Nat.lt_or_ge i j with h | h
                      · exact HN.out i h
                      · obtain rfl : i = j := by omega
                        have e1 := gBad_ok (pre := gs.take i) (g := ⟨gn, gz, gi⟩) Hnm.out Hbh.out Hr.out (by simp only; rw [Hil.out]; exact hil) (by simp only; rw [← Hz.out]; exact hmu)
                        unfold gBadAt
                        rw [Hg.out]
                        exact e1
                    have Hz2 : Hid (z + gz = sumG (gs.take (j + 1))) := Lib.hid (by rw [sumG_snoc gs j _ Hg.out, ← Hz.out])
                    go_wp2_with fail
                    go_quiet (fail)
                    go_wp2_with fail
                    go_roundw
                    case rel => exact ⟨j + 1, z + gz, by omega, by go_num, rfl, Hz2, by omega, by omega, HN2, Lib.hid (show Blk (wo.drewN _) _ _ _ from HK.out), Lib.hid (below_drewN HB.out _)⟩
                    case measure => simp [intOf]; omega
              · have HE : Hid (globF gs = (3, (j : Int))) := Lib.hid (by
                  have e1 := gBad_range (pre := gs.take j) (g := ⟨gn, gz, gi⟩) Hnm.out Hbh.out hr
                  rw [globF_hit (by rw [HL.out]; exact hl10) Hg.out (by rw [e1]; decide) HN.out, e1])
                rcases (by omega : gz < 1 ∨ (1 ≤ gz ∧ 200 < gz)) with hr1 | ⟨hr1, hr2⟩
                all_goals
                  clear hr
                  go_wp2_with fail
                  exact end_cell rfl rfl ((show Blk (wo.drewN _) _ _ _ from HK.out).set2 _ _) Tryz.underlying24 rfl (by kernel_rfl) rfl ⟨by rw [HE.out], ((below_drewN HB.out _).setCell (by simp) _).setCell (by simp) _⟩
      · have HE := Lib.hid (globF_ok (gs := gs) (by rw [HL.out]; exact hl10) fun j hj => HN.out j (by have := HL.out; omega))
        go_wp2_with fail
        exact end_cell rfl rfl (HK.out.set2 _ _) Tryz.underlying24 rfl (by kernel_rfl) rfl ⟨by rw [HE.out], (HB.out.setCell (by simp) _).setCell (by simp) _⟩
end Go.Proofs.YtdldochhondifaaGreatDoor
