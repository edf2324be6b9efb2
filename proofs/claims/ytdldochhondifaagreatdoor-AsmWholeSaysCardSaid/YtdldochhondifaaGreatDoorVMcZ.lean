/-
  Texts of the claim AsmWholeSays (McZ): what each proves stands at its theorems.
  Conditions: as the theorems say.
-/
import Derived.Deep.DeepCutAuto
import Derived.RegionTactic
import Derived.BigRegion
import Derived.Deep.QuietTactic
import Derived.BigQuiet
import Derived.Deep.RegionHeld3
import Derived.Test.YtdldochhondifaaGreatDoorVMcD
import Derived.Test.YtdldochhondifaaGreatDoorVRdP
import Derived.Test.YtdldochhondifaaGreatDoorVRdJ
import Derived.Test.YtdldochhondifaaGreatDoorVKitE
namespace Go.Proofs.YtdldochhondifaaGreatDoor
open Go.RowKit

def isMain (s : ByteArray) : Bool := s.toList == [109, 97, 105, 110]
def rNameBad (k : Nat) (s : ByteArray) : Bool := !nameS s || (decide (k = 0) && !isMain s)
def rHadG (gs : List Glob) (s : ByteArray) : Bool := gs.any fun g => g.name.toList == s.toList
def rHadR (pre : List Rout) (s : ByteArray) : Bool := pre.any fun r => r.name.toList == s.toList
def farB (n : Nat) (m : Mac) : Bool := m.op == 44 && decide ((n : Int) ≤ m.n)
/-- What is wrong with a routine. -/
def rBad (gs : List Glob) (n k : Nat) (pre : List Rout) (r : Rout) : Int :=
  if rNameBad k r.name = true then 12 else if (rHadG gs r.name || rHadR pre r.name) = true then 7 else if (readL r.code).1.1 ≠ 0 then 1 else if ((readL r.code).2.any (farB n)) = true then 3 else 0
def rBadAt (gs : List Glob) (rs : List Rout) (k : Nat) : Int := match rs[k]? with
  | some r => rBad gs rs.length k (rs.take k) r
  | none => 0
/-- What is wrong with an image. -/
def machF (gs : List Glob) (rs : List Rout) : Int × Int :=
  if (globF gs).1 ≠ 0 then globF gs else if rs.length = 0 then (6, 0) else if 40 < rs.length then (2, 0) else firstBad (rBadAt gs rs) rs.length
def imgCodes (rs : List Rout) : List (List Mac) := rs.map fun r => (readL r.code).2
theorem imgCodes_snoc (rs : List Rout) (k : Nat) (r : Rout) (h : rs[k]? = some r) : imgCodes (rs.take (k + 1)) = imgCodes (rs.take k) ++ [(readL r.code).2] := by
  unfold imgCodes
  have hlt := (List.getElem?_eq_some_iff.1 h).1
  rw [List.take_succ_eq_append_getElem hlt, (List.getElem?_eq_some_iff.1 h).2, List.map_append]
  rfl
section
variable {gs : List Glob} {rs : List Rout} {k : Nat} {r : Rout}
theorem machF_hit (hg : (globF gs).1 = 0) (hl : rs.length ≤ 40) (hk : rs[k]? = some r) (h : rBad gs rs.length k (rs.take k) r ≠ 0) (hb : ∀ j, j < k → rBadAt gs rs j = 0) : machF gs rs = (rBad gs rs.length k (rs.take k) r, (k : Int)) := by
  have hlt := (List.getElem?_eq_some_iff.1 hk).1
  have e : rBadAt gs rs k = rBad gs rs.length k (rs.take k) r := by unfold rBadAt; rw [hk]
  unfold machF
  rw [if_neg (by simpa using hg), if_neg (by omega), if_neg (by omega), firstBad_hit hlt (by rw [e]; exact h) hb, e]
theorem machF_ok (hg : (globF gs).1 = 0) (h0 : rs.length ≠ 0) (hl : rs.length ≤ 40) (hb : ∀ j, j < rs.length → rBadAt gs rs j = 0) : machF gs rs = (0, 0) := by
  unfold machF
  rw [if_neg (by simpa using hg), if_neg h0, if_neg (by omega), firstBad_ok hb]
variable {n : Nat} {pre : List Rout}
theorem rBad_name (h : rNameBad k r.name = true) : rBad gs n k pre r = 12 := by unfold rBad; rw [if_pos h]
theorem rBad_had (h : rNameBad k r.name = false) (h2 : (rHadG gs r.name || rHadR pre r.name) = true) : rBad gs n k pre r = 7 := by unfold rBad; rw [if_neg (by rw [h]; simp), if_pos h2]
theorem rBad_text (h : rNameBad k r.name = false) (h2 : (rHadG gs r.name || rHadR pre r.name) = false) (h3 : (readL r.code).1.1 ≠ 0) : rBad gs n k pre r = 1 := by
  unfold rBad; rw [if_neg (by rw [h]; simp), if_neg (by rw [h2]; simp), if_pos h3]
theorem rBad_far (h : rNameBad k r.name = false) (h2 : (rHadG gs r.name || rHadR pre r.name) = false) (h3 : (readL r.code).1.1 = 0) (h4 : ((readL r.code).2.any (farB n)) = true) : rBad gs n k pre r = 3 := by
  unfold rBad; rw [if_neg (by rw [h]; simp), if_neg (by rw [h2]; simp), if_neg (by simpa using h3), if_pos h4]
theorem rBad_ok (h : rNameBad k r.name = false) (h2 : (rHadG gs r.name || rHadR pre r.name) = false) (h3 : (readL r.code).1.1 = 0) (h4 : ((readL r.code).2.any (farB n)) = false) : rBad gs n k pre r = 0 := by
  unfold rBad; rw [if_neg (by rw [h]; simp), if_neg (by rw [h2]; simp), if_neg (by simpa using h3), if_neg (by rw [h4]; simp)]
end
theorem RoutsAt.take {w : World} {B len c : Nat} {A : Option Addr} {rs : List Rout} (h : RoutsAt w B (.slice A len c) rs) {k : Nat} (hk : k ≤ len) : RoutsAt w B (.slice A k c) (rs.take k) := by
  obtain ⟨A', c', e, h1, h2, h3⟩ := h
  have hl : rs.length = len := by cases e; rfl
  have hlk : (rs.take k).length = k := by rw [List.length_take]; omega
  refine ⟨A, c, by rw [hlk], ?_, ?_, fun hp => ?_⟩
  · cases e; rw [hlk]; omega
  · cases e; exact h2
  · obtain ⟨b, off, e1, e2, e3⟩ := h3 (by rw [hlk] at hp; omega)
    cases e
    refine ⟨b, off, e1, e2, fun j g hj => e3 j g ?_⟩
    rw [List.getElem?_take] at hj
    split at hj
    · exact hj
    · cases hj
set_option maxRecDepth 100000 in
set_option maxHeartbeats 1000000 in
theorem sameNameG_any (s gn : ByteArray) (n : Int) (iv : Value) (gb : Nat) (w : World) (hc : w.cell? ⟨gb, 0, none⟩ = some (.string gn)) (hb : gb < w.heap.size) :
    Calls Tryz.prog 99 #[.agg #[.string s, .int .i64 n, iv], .pointer (some ⟨gb, 0, none⟩)] w fun e w' => e = .returned (.bool (s.toList == gn.toList)) ∧ Below w.heap.size w w' := by
  go_enter Tryz.func99, Tryz.ntmps99
  go_wp2_with fail
  go_ret
  exact ⟨rfl, (Below.refl _ _).alloc (Nat.le_refl _) _⟩
set_option maxRecDepth 100000 in
set_option maxHeartbeats 1000000 in
theorem sameNameR_any (s gn : ByteArray) (iv : Value) (gb : Nat) (w : World) (hc : w.cell? ⟨gb, 0, none⟩ = some (.string gn)) (hb : gb < w.heap.size) :
    Calls Tryz.prog 101 #[.agg #[.string s, iv], .pointer (some ⟨gb, 0, none⟩)] w fun e w' => e = .returned (.bool (s.toList == gn.toList)) ∧ Below w.heap.size w w' := by
  go_enter Tryz.func101, Tryz.ntmps101
  go_wp2_with fail
  go_ret
  exact ⟨rfl, (Below.refl _ _).alloc (Nat.le_refl _) _⟩
set_option maxRecDepth 100000 in
set_option maxHeartbeats 1000000 in
theorem far_any (m : Mac) (A : Option Addr) (n c gb : Nat) (w : World) (hc : w.cell? ⟨gb, 1, none⟩ = some (.slice A n c)) (hb : gb < w.heap.size) :
    Calls Tryz.prog 102 #[.agg #[.int .i64 m.op, .int .i64 m.dst, .int .i64 m.a, .int .i64 m.b, .int .i64 m.n], .pointer (some ⟨gb, 0, none⟩)] w fun e w' => e = .returned (.bool (farB n m)) ∧ Below w.heap.size w w' := by
  obtain ⟨op, dst, a, b, nn⟩ := m
  simp only
  by_cases ho : op = 44
  · have hb1 : (op == 44) = true := by simp [ho]
    have HE : Hid (farB n ⟨op, dst, a, b, nn⟩ = decide ((n : Int) ≤ nn)) := Lib.hid (by unfold farB; simp only; rw [hb1, Bool.true_and])
    clear ho
    by_cases hf : (n : Int) ≤ nn
    all_goals
      go_enter Tryz.func102, Tryz.ntmps102
      go_wp2_with fail
      go_ret
      exact ⟨ret_bool (by rw [HE.out]; simp; omega), (Below.refl _ _).alloc (Nat.le_refl _) _⟩
  · have hb1 : (op == 44) = false := by simp [ho]
    have HE : Hid (farB n ⟨op, dst, a, b, nn⟩ = false) := Lib.hid (by unfold farB; simp only; rw [hb1, Bool.false_and])
    clear ho
    go_enter Tryz.func102, Tryz.ntmps102
    go_wp2_with fail
    go_ret
    exact ⟨ret_bool (by rw [HE.out]), (Below.refl _ _).alloc (Nat.le_refl _) _⟩
end Go.Proofs.YtdldochhondifaaGreatDoor
namespace Go.Proofs.YtdldochhondifaaGreatDoor
open Go.RowKit

theorem own_formM {w : World} {base : Nat} {v : Value} {xs : List Mac} (h : OwnMacs w base v xs) : ∃ A cap, v = .slice A xs.length cap := by
  rcases h.2 with ⟨e, h0⟩ | ⟨g, cap, cur, e, hg, _⟩
  · exact ⟨none, 0, by rw [h0]; exact e⟩
  · exact ⟨_, cap, e⟩
theorem infoCode : (Tryz.prog.info? 22).map (fun i => (i.zero, i.size, i.bytes)) = some (some (.slice none 0 0), 1, 24) := by kernel_rfl
/-- The slice value v reads as lists of instructions, below block B. -/
def CodesAt (w : World) (B : Nat) (v : Value) (xss : List (List Mac)) : Prop :=
  ∃ (A : Option Addr) (c : Nat), v = .slice A xss.length c ∧ xss.length ≤ c ∧ c ≤ 9223372036854775807 ∧
    (0 < xss.length → ∃ b off, A = some ⟨b, off, none⟩ ∧ b < B ∧ ∀ (k : Nat) (xs : List Mac), xss[k]? = some xs → ∃ r, w.cell? ⟨b, off + k, none⟩ = some r ∧ MacsAt w B r xs)
theorem CodesAt.below {W w1 : World} {B B' : Nat} {v : Value} {xss : List (List Mac)} (h : CodesAt W B v xss) (hb : Below B' W w1) (hB : B ≤ B') : CodesAt w1 B v xss := by
  obtain ⟨A, c, e, h1, h2, h3⟩ := h
  refine ⟨A, c, e, h1, h2, fun hl => ?_⟩
  obtain ⟨b, off, e1, e2, e3⟩ := h3 hl
  refine ⟨b, off, e1, e2, fun k m hk => ?_⟩
  obtain ⟨r, hr, hi⟩ := e3 k m hk
  exact ⟨r, (bcell hb (Nat.lt_of_lt_of_le e2 hB)).trans hr, hi.below hb hB⟩
theorem CodesAt.more {w : World} {B B' : Nat} {v : Value} {xss : List (List Mac)} (h : CodesAt w B v xss) (hB : B ≤ B') : CodesAt w B' v xss := by
  obtain ⟨A, c, e, h1, h2, h3⟩ := h
  refine ⟨A, c, e, h1, h2, fun hl => ?_⟩
  obtain ⟨b, off, e1, e2, e3⟩ := h3 hl
  refine ⟨b, off, e1, by omega, fun k m hk => ?_⟩
  obtain ⟨r, hr, hi⟩ := e3 k m hk
  exact ⟨r, hr, hi.more hB⟩
theorem CodesAt.nil (w : World) (B : Nat) : CodesAt w B (.slice none 0 0) [] := ⟨none, 0, rfl, by simp, by omega, fun h => by simp at h⟩
/-- Rows of different element types lie in different blocks. -/
theorem own_apart2 {w : World} {base base' : Nat} {e e' : TypeId} {size size' n n' : Nat} {v v' : Value} {xs xs' : List Value} (h : w.ownsRow base e size v n xs) (h' : w.ownsRow base' e' size' v' n' xs') (hne : e ≠ e') : ∀ k, v.ownBlock = some k → v'.ownBlock ≠ some k := by
  intro k hk hk'
  rcases h.2 with ⟨rfl, _⟩ | ⟨g, cap, cur, rfl, _, hg, _⟩
  · simp [Value.ownBlock] at hk
  rcases h'.2 with ⟨rfl, _⟩ | ⟨g', cap', cur', rfl, _, hg', _⟩
  · simp [Value.ownBlock] at hk'
  simp only [Value.ownBlock, Option.some.injEq] at hk hk'
  subst hk
  subst hk'
  rw [hg] at hg'
  simp only [Option.some.injEq, Obj.cells.injEq] at hg'
  exact hne hg'.2.1
/-- The call owns the slice v, which reads as lists of instructions, whose rows it owns, too. -/
def CodesOwn (w : World) (base : Nat) (v : Value) (xss : List (List Mac)) : Prop :=
  ∃ rs : List Value, rs.length = xss.length ∧ w.ownsRow base 22 1 v rs.length rs ∧ ∀ (i : Nat) (r : Value) (xs : List Mac), rs[i]? = some r → xss[i]? = some xs → OwnMacs w base r xs
theorem CodesOwn.nil (w : World) (base : Nat) : CodesOwn w base (.slice none 0 0) [] := ⟨[], rfl, World.ownsRow_nil _ _ _ _, fun i r xs h _ => by simp at h⟩
theorem CodesOwn.below {w w' : World} {base B : Nat} {v : Value} {xss : List (List Mac)} (h : CodesOwn w base v xss) (hb : Below B w w') (hB : B = w.heap.size) : CodesOwn w' base v xss := by
  obtain ⟨rs, h1, h2, h3⟩ := h
  refine ⟨rs, h1, ?_, fun i r xs hr hx => (h3 i r xs hr hx).below hb hB⟩
  refine World.ownsRow.kept (row := none) h2 ⟨hb.os, hb.tape, hb.output, hb.size, fun k hk _ => hb.block k (by omega)⟩ ?_
  cases v.ownBlock <;> simp
theorem CodesOwn.rows {w : World} {base : Nat} {v : Value} {xss : List (List Mac)} (h : CodesOwn w base v xss) : CodesAt w w.heap.size v xss := by
  obtain ⟨rs, h1, h2, h3⟩ := h
  rcases h2.2 with ⟨rfl, hn⟩ | ⟨g, cap, cur, rfl, _, hgg, hnc, hcm, _, _⟩
  · have : xss = [] := List.eq_nil_of_length_eq_zero (by omega)
    subst this
    exact CodesAt.nil _ _
  · refine ⟨some ⟨g, 0, none⟩, cap, by rw [h1], by omega, by unfold maxLen at hcm; omega, fun _ => ⟨g, 0, rfl, (World.ownsRow.lt h2 g rfl).2, fun k xs hk => ?_⟩⟩
    have hkl : k < rs.length := by have := (List.getElem?_eq_some_iff.1 hk).1; omega
    have hc := World.ownsRow.cells h2 (g := g) rfl k rs[k] (List.getElem?_eq_getElem hkl)
    have e : (⟨g, 0, none⟩ : Addr).add k = ⟨g, 0 + k, none⟩ := by
      unfold Addr.add
      split <;> simp_all
    rw [e] at hc
    exact ⟨_, hc, (h3 k _ xs (List.getElem?_eq_getElem hkl) hk).macs⟩
theorem CodesOwn.snoc {w w' : World} {base : Nat} {v v' r : Value} {xss : List (List Mac)} {xs : List Mac} {rs : List Value} {H : Nat} (h1 : rs.length = xss.length) (h2 : w.ownsRow base 22 1 v rs.length rs)
    (h3 : ∀ (i : Nat) (r : Value) (xs : List Mac), rs[i]? = some r → xss[i]? = some xs → OwnMacs w base r xs) (hr : OwnMacs w base r xs) (ha : Appended w base 22 1 v (rs.length + 1) (rs ++ [r]) H v' w') : CodesOwn w' base v' (xss ++ [xs]) := by
  have keep : ∀ (q : Value) (ys : List Mac), OwnMacs w base q ys → OwnMacs w' base q ys := fun q ys hq =>
    ha.row (v0 := q) hq fun k hk => own_apart2 (e' := 22) hq h2 (by decide) k hk
  refine ⟨rs ++ [r], by simp [h1], by rw [List.length_append]; exact ha.own, fun i q ys hq hy => ?_⟩
  rcases Nat.lt_or_ge i rs.length with hi | hi
  · rw [List.getElem?_append_left hi] at hq
    rw [List.getElem?_append_left (by omega)] at hy
    exact keep q ys (h3 i q ys hq hy)
  · rw [List.getElem?_append_right hi] at hq
    rw [List.getElem?_append_right (by omega)] at hy
    rcases Nat.eq_or_lt_of_le hi with he | he
    · rw [← he, Nat.sub_self] at hq
      rw [← he, h1, Nat.sub_self] at hy
      simp only [List.getElem?_cons_zero, Option.some.injEq] at hq hy
      subst hq
      subst hy
      exact keep _ _ hr
    · rw [List.getElem?_eq_none (by simp; omega)] at hq
      cases hq

theorem CodesOwn.set {w : World} {base : Nat} {v : Value} {xss : List (List Mac)} (h : CodesOwn w base v xss) {b o : Nat} (hb : b < base) (u : Value) : CodesOwn (w.setCell ⟨b, o, none⟩ u) base v xss := by
  obtain ⟨rs, h1, h2, h3⟩ := h
  exact ⟨rs, h1, ownsRow_setCell_below (a := ⟨b, o, none⟩) h2 hb u, fun i r xs hr hx => (h3 i r xs hr hx).set hb u⟩

theorem CodesOwn.more {w : World} {base base' : Nat} {v : Value} {css : List (List Mac)} (h : CodesOwn w base v css) (hb : base' ≤ base) : CodesOwn w base' v css := by
  obtain ⟨rs, h1, ⟨h2, h3⟩, h4⟩ := h
  refine ⟨rs, h1, ⟨h2, ?_⟩, fun i r ms hr hm => (h4 i r ms hr hm).more hb⟩
  rcases h3 with h3 | ⟨g, cap, cur, e, hg, h3⟩
  · exact .inl h3
  · exact .inr ⟨g, cap, cur, e, by omega, h3⟩
end Go.Proofs.YtdldochhondifaaGreatDoor
namespace Go.Proofs.YtdldochhondifaaGreatDoor
open Go.RowKit

/-- What load comes to. -/
def LoadPost (w : World) (f : Int × Int) (css : List (List Mac)) (e : Ending) (w' : World) : Prop :=
  ∃ v, e = .returned (.tuple #[v, .agg #[.int .i64 f.1, .int .i64 f.2]]) ∧ CodesOwn w' w.heap.size v css ∧ Below w.heap.size w w'
/-- What stands while an image is loaded. -/
def LoadNow (w : World) (gi gr : Nat) (gv rv out : Value) (css : List (List Mac)) (wx : World) : Prop :=
  Blk wx gi 43 #[gv, rv] ∧ Blk wx gr 24 #[.int .i64 0, .int .i64 0] ∧ Below w.heap.size w wx ∧ CodesOwn wx (gr + 1) out css
theorem LoadNow.below {w : World} {gi gr : Nat} {gv rv out : Value} {css : List (List Mac)} {wx wy : World} (h : LoadNow w gi gr gv rv out css wx) (hb : Below wx.heap.size wx wy) : LoadNow w gi gr gv rv out css wy :=
  ⟨h.1.below hb h.1.lt, h.2.1.below hb h.2.1.lt, h.2.2.1.trans (hb.mono h.2.2.1.size), h.2.2.2.below hb rfl⟩
theorem LoadNow.alloc {w : World} {gi gr : Nat} {gv rv out : Value} {css : List (List Mac)} {wx : World} (h : LoadNow w gi gr gv rv out css wx) (o : Obj) : LoadNow w gi gr gv rv out css (wx.alloc o) :=
  h.below ((Below.refl _ _).alloc (Nat.le_refl _) o)
def machL (gs : List Glob) (rs : List Rout) : List (List Mac) := if (machF gs rs).1 = 0 then imgCodes rs else []
theorem machL_no {gs : List Glob} {rs : List Rout} {f : Int × Int} (h : machF gs rs = f) (h0 : f.1 ≠ 0) : machL gs rs = [] := by unfold machL; rw [h, if_neg h0]
theorem machL_ok {gs : List Glob} {rs : List Rout} (h : machF gs rs = (0, 0)) : machL gs rs = imgCodes rs := by unfold machL; rw [h, if_pos rfl]
def ROk (rs : List Rout) : Prop := ∀ r ∈ rs, r.name.size ≤ 9223372036854775807 ∧ BytesOk r.code
def GOk (gs : List Glob) : Prop := ∀ g ∈ gs, g.name.size ≤ 9223372036854775807 ∧ I64 g.size

set_option maxRecDepth 100000 in
set_option maxHeartbeats 2000000 in
theorem load_any (gv rv : Value) (gs : List Glob) (rs : List Rout) (w : World) (hg : GlobsAt w w.heap.size gv gs) (hr : RoutsAt w w.heap.size rv rs) (hgo : GOk gs) (hro : ROk rs) (ht : Tab w) :
    Calls Tryz.prog 51 #[.agg #[gv, rv]] w (LoadPost w (machF gs rs) (machL gs rs)) := by
  have HG := Lib.hid hg
  have HR := Lib.hid hr
  have HGo := Lib.hid hgo
  have HRo := Lib.hid hro
  have HT := Lib.hid ht
  obtain ⟨Ag, cg, hgv, hgc, hg63, _⟩ := hg
  obtain ⟨Ar, cr, hrv, hrc, hr63, _⟩ := hr
  subst hgv
  subst hrv
  obtain ⟨gl, hgl⟩ : ∃ gl, gs.length = gl := ⟨_, rfl⟩
  obtain ⟨len, hlen⟩ : ∃ len, rs.length = len := ⟨_, rfl⟩
  have HLg := Lib.hid hgl
  have HL := Lib.hid hlen
  rw [hgl] at hgc HG ⊢
  rw [hlen] at hrc HR ⊢
  clear hgl hlen hgo hro ht
  have HA : Hid (Below w.heap.size w ((w.alloc (.cells #[.slice Ag gl cg, .slice Ar len cr] 43)).alloc (.cells #[.int .i64 0, .int .i64 0] 24))) := Lib.hid (((Below.refl _ _).alloc (Nat.le_refl _) _).alloc (by simp) _)
  have hs2 : ((w.alloc (.cells #[.slice Ag gl cg, .slice Ar len cr] 43)).alloc (.cells #[.int .i64 0, .int .i64 0] 24)).heap.size = w.heap.size + 2 := by simp
  have HN : Hid (LoadNow w w.heap.size (w.heap.size + 1) (.slice Ag gl cg) (.slice Ar len cr) (.slice none 0 0) [] ((w.alloc (.cells #[.slice Ag gl cg, .slice Ar len cr] 43)).alloc (.cells #[.int .i64 0, .int .i64 0] 24))) := Lib.hid
    ⟨(Blk.new w _ _).alloc _, by have := Blk.new (w.alloc (.cells #[.slice Ag gl cg, .slice Ar len cr] 43)) 24 #[.int .i64 0, .int .i64 0]; simpa using this, HA.out, CodesOwn.nil _ _⟩
  go_enter Tryz.func51, Tryz.ntmps51
  go_wp2_with fail
  generalize (w.alloc (.cells #[.slice Ag gl cg, .slice Ar len cr] 43)).alloc (.cells #[.int .i64 0, .int .i64 0] 24) = W at *
  refine (Globals_any _ gs W ((HG.out.below HA.out (Nat.le_refl _)).more (by omega)) HGo.out).mono ?_
  rintro e w1 ⟨n1, rfl, hb1⟩
  have HN1 := Lib.hid ((HN.out.below hb1).alloc (.cells #[.int .i64 (globF gs).1, .int .i64 (globF gs).2] 24))
  have hk5 := Blk.new w1 24 #[.int .i64 (globF gs).1, .int .i64 (globF gs).2]
  have hz1 : w.heap.size + 2 ≤ w1.heap.size := by have := hb1.size; omega
  have p0 := hk5.cell 0
  have p1 := hk5.cell 1
  have i0 := HN1.out.1.cell 0
  have i1 := HN1.out.1.cell 1
  have q0 := HN1.out.2.1.cell 0
  have q1 := HN1.out.2.1.cell 1
  have k0 := HN1.out.2.1.frozen 0
  have k1 := HN1.out.2.1.frozen 1
  clear hb1 hk5 HN HA hs2
  by_cases hf : (globF gs).1 = 0
  · have hf0 : ((globF gs).1 != 0) = false := by simp [hf]
    have Hf := Lib.hid hf
    clear hf
    by_cases hl0 : len = 0
    · have HE : Hid (machF gs rs = (6, 0)) := Lib.hid (by unfold machF; rw [if_neg (by rw [Hf.out]; simp), if_pos (by rw [HL.out]; exact hl0)])
      have hlb : ((len : Int) == 0) = true := by simp [hl0]
      clear hl0
      go_wp2_with fail
      refine end_tmp_cell rfl rfl (HN1.out.2.1.set2 _ _) Tryz.underlying24 rfl (by kernel_rfl) rfl ⟨_, by rw [HE.out], ?_, (HN1.out.2.2.1.setCell (by simp) _).setCell (by simp) _⟩
      rw [machL_no HE.out (by simp)]
      exact CodesOwn.nil _ _
    · have hlb : ((len : Int) == 0) = false := by simp [hl0]
      have Hl0 := Lib.hid hl0
      clear hl0
      by_cases hl40 : 40 < len
      · have HE : Hid (machF gs rs = (2, 0)) := Lib.hid (by unfold machF; rw [if_neg (by rw [Hf.out]; simp), if_neg (by rw [HL.out]; exact Hl0.out), if_pos (by rw [HL.out]; exact hl40)])
        go_wp2_with fail
        refine end_tmp_cell rfl rfl (HN1.out.2.1.set2 _ _) Tryz.underlying24 rfl (by kernel_rfl) rfl ⟨_, by rw [HE.out], ?_, (HN1.out.2.2.1.setCell (by simp) _).setCell (by simp) _⟩
        rw [machL_no HE.out (by simp)]
        exact CodesOwn.nil _ _
      · go_wp2_with fail
        generalize w1.alloc (.cells #[.int .i64 (globF gs).1, .int .i64 (globF gs).2] 24) = W1 at *
        go_loopw [6, 38] (fun out i wr => ∃ k : Nat, k ≤ len ∧ i = .int .i64 k ∧ Hid (∀ j, j < k → rBadAt gs rs j = 0) ∧ Hid (LoadNow w w.heap.size (w.heap.size + 1) (.slice Ag gl cg) (.slice Ar len cr) out (imgCodes (rs.take k)) wr)) (fun _ i _ => len - (intOf i).toNat)
        case atStart => exact ⟨0, Nat.zero_le _, rfl, Lib.hid (fun j h => absurd h (Nat.not_lt_zero j)), HN1⟩
        case round =>
          obtain ⟨k, hk, rfl, HNb, HN⟩ := hrel
          clear p0 p1 i0 i1 q0 q1 k0 k1 HN1
          have i0 := HN.out.1.cell 0
          have i1 := HN.out.1.cell 1
          have hzw : w.heap.size + 1 < wr.heap.size := HN.out.2.1.lt
          by_cases hlt : k < len
          · obtain ⟨A', c', e, _, _, h3⟩ := HR.out
            obtain ⟨b, off, hA, hbw, hcell⟩ := h3 (by rw [HL.out]; omega)
            obtain rfl : A' = Ar := ((Value.slice.inj e).1).symm
            clear e
            subst hA
            obtain ⟨⟨rn, rc⟩, hg⟩ : ∃ g, rs[k]? = some g := ⟨rs[k]'(by rw [HL.out]; exact hlt), List.getElem?_eq_getElem _⟩
            obtain ⟨cv, c0, c1, hbc⟩ := hcell k _ hg
            have hHB := HN.out.2.2.1
            have c0 := (bcell hHB hbw).trans c0
            have c1 := (bcell hHB hbw).trans c1
            simp only at c0 c1 hbc
            have HBc := Lib.hid hbc
            obtain ⟨Ac, cc, hcv, _⟩ := hbc
            subst hcv
            have Hg := Lib.hid hg
            obtain ⟨hns, hbo⟩ := HRo.out _ (List.mem_of_getElem? hg)
            have hns' : rn.size ≤ 9223372036854775807 := hns
            have HBo := Lib.hid (show BytesOk rc from hbo)
            have HQ : Hid (Blk (wr.alloc (.cells #[.string rn, .slice Ac rc.length cc] 76)) wr.heap.size 76 #[.string rn, .slice Ac rc.length cc]) := Lib.hid (Blk.new _ _ _)
            have HN1 := Lib.hid (HN.out.alloc (.cells #[.string rn, .slice Ac rc.length cc] 76))
            clear hcell h3 hg hns hbo hHB
            go_upto_region 12 with fail
            clear c0 c1 i0 i1 hbw
            generalize hg8 : wr.heap.size = g8 at *
            have Hg8 := Lib.hid hg8
            clear hg8
            generalize wr.alloc (.cells #[.string rn, .slice Ac rc.length cc] 76) = W2 at *
            have hlt8 := HQ.out.lt
            go_cut [9] (fun s wx => s = .bool (rHadG gs rn || rHadR (rs.take k) rn) ∧ Hid (LoadNow w w.heap.size (w.heap.size + 1) (.slice Ag gl cg) (.slice (some ⟨b, off, none⟩) len cr) u6 (imgCodes (rs.take k)) wx) ∧ Hid (Blk wx g8 76 #[.string rn, .slice Ac rc.length cc]))
            case first =>
              have i0 := HN1.out.1.cell 0
              have i1 := HN1.out.1.cell 1
              go_wp2_with fail
              refine (ContainsG_any 99 #[.pointer (some ⟨g8, 0, none⟩)] _ gs (fun s => s.toList == rn.toList) W2 ((HG.out.below HN1.out.2.2.1 (Nat.le_refl _)).more HN1.out.2.2.1.size) (by rw [HLg.out]; omega) (fun a W => MuLone.run_callFunc_enter Tryz.func99 (by kernel_rfl) rfl a W) (fun s n iv W hW => ?_)).mono ?_
              · have := sameNameG_any s rn n iv g8 W ((HQ.out.below hW hlt8).cell 0) (Nat.lt_of_lt_of_le hlt8 hW.size)
                simpa using this
              rintro e w2 ⟨rfl, hb2⟩
              have HN2 := Lib.hid (HN1.out.below hb2)
              have HQ2 := Lib.hid (HQ.out.below hb2 hlt8)
              have hlt82 := HQ2.out.lt
              obtain ⟨bG, hbG⟩ : ∃ bG, (gs.any fun g => g.name.toList == rn.toList) = bG := ⟨_, rfl⟩
              have HbG : Hid (rHadG gs rn = bG) := Lib.hid hbG
              rw [hbG]
              have i0 := HN2.out.1.cell 0
              have i1 := HN2.out.1.cell 1
              clear hb2 hbG
              cases bG
              · go_wp2_with fail
                refine (ContainsR_any 101 #[.pointer (some ⟨g8, 0, none⟩)] _ (rs.take k) (fun s => s.toList == rn.toList) w2 (((HR.out.take (Nat.le_of_lt hlt)).below HN2.out.2.2.1 (Nat.le_refl _)).more HN2.out.2.2.1.size) (by rw [List.length_take]; omega) (fun a W => MuLone.run_callFunc_enter Tryz.func101 (by kernel_rfl) rfl a W) (fun s iv W hW => ?_)).mono ?_
                · have := sameNameR_any s rn iv g8 W ((HQ2.out.below hW hlt82).cell 0) (Nat.lt_of_lt_of_le hlt82 hW.size)
                  simpa using this
                rintro e w3 ⟨rfl, hb3⟩
                have HN3 := Lib.hid (HN2.out.below hb3)
                have HQ3 := Lib.hid (HQ2.out.below hb3 hlt82)
                obtain ⟨bR, hbR⟩ : ∃ bR, ((rs.take k).any fun g => g.name.toList == rn.toList) = bR := ⟨_, rfl⟩
                have HbR : Hid (rHadR (rs.take k) rn = bR) := Lib.hid hbR
                rw [hbR]
                clear hb3 hbR
                go_wp2_with fail
                go_meet
                exact ⟨by rw [HbG.out, HbR.out]; cases bR <;> rfl, HN3, HQ3⟩
              · go_wp2_with fail
                go_meet
                exact ⟨by rw [HbG.out]; rfl, HN2, HQ2⟩
            case rest =>
              obtain ⟨rfl, HN2, HQ2⟩ := hcut
              obtain ⟨bh, hbh⟩ : ∃ bh, (rHadG gs rn || rHadR (rs.take k) rn) = bh := ⟨_, rfl⟩
              have Hbh := Lib.hid hbh
              rw [hbh]
              obtain ⟨f1, f2, ms, hrd⟩ : ∃ f1 f2 ms, readL rc = ((f1, f2), ms) := ⟨_, _, _, rfl⟩
              have Hrd := Lib.hid hrd
              have r1 := HQ2.out.cell 1
              have hcall := Read_any (.slice Ac rc.length cc) rc _ ((HBc.out.below HN2.out.2.2.1 (Nat.le_refl _)).more HN2.out.2.2.1.size) HBo.out (HT.out.own HN2.out.2.2.1)
              rw [hrd] at hcall
              simp only at hcall
              have HCall := Lib.hid hcall
              clear hbh hrd hcall
              go_wp2_with fail
              refine HCall.out.mono ?_
              rintro e w3 ⟨vl, rfl, hml, hb3⟩
              have hzx := HN2.out.2.1.lt
              have HN4 := Lib.hid ((HN2.out.below hb3).alloc (.cells #[.int .i64 f1, .int .i64 f2] 24))
              have HQ4 := Lib.hid ((HQ2.out.below hb3 HQ2.out.lt).alloc (.cells #[.int .i64 f1, .int .i64 f2] 24))
              have HF4 := Lib.hid (Blk.new w3 24 #[.int .i64 f1, .int .i64 f2])
              have HM4 : Hid (OwnMacs (w3.alloc (.cells #[.int .i64 f1, .int .i64 f2] 24)) (w.heap.size + 1 + 1) vl ms) := Lib.hid (OwnMacs.more (World.ownsRow.alloc hml _) (by omega))
              clear hb3 hml r1 HCall
              go_upto_region 15 with fail
              generalize w3.heap.size = g11 at *
              generalize w3.alloc (.cells #[.int .i64 f1, .int .i64 f2] 24) = W4 at *
              obtain ⟨rb, hrb⟩ : ∃ rb, rNameBad k rn = rb := ⟨_, rfl⟩
              have Hrb := Lib.hid hrb
              go_cut [62] (fun s wx => s = .bool (rNameBad k rn) ∧ wx = W4)
              case first =>
                have r0 := HQ4.out.cell 0
                clear hrb
                go_wp2_with fail
                refine (Name_any rn _ hns').mono ?_
                rintro e w' ⟨rfl, rfl⟩
                cases hnm : nameS rn
                · have HX : Hid (rNameBad k rn = true) := Lib.hid (by unfold rNameBad; rw [hnm]; rfl)
                  clear hnm
                  go_wp2_with fail
                  go_meet
                  exact ⟨by rw [HX.out], rfl⟩
                · by_cases hk0 : k = 0
                  · have hkb : ((k : Int) == 0) = true := by simp [hk0]
                    cases hm : (rn.toList == [109, 97, 105, 110])
                    · have HX : Hid (rNameBad k rn = true) := Lib.hid (by unfold rNameBad isMain; rw [hnm, hm]; simp [hk0])
                      clear hnm hk0
                      go_wp2_with fail
                      go_meet
                      exact ⟨by rw [HX.out], rfl⟩
                    · have HX : Hid (rNameBad k rn = false) := Lib.hid (by unfold rNameBad isMain; rw [hnm, hm]; simp)
                      clear hnm hk0
                      go_wp2_with fail
                      go_meet
                      exact ⟨by rw [HX.out], rfl⟩
                  · have hkb : ((k : Int) == 0) = false := by simp [hk0]
                    have HX : Hid (rNameBad k rn = false) := Lib.hid (by unfold rNameBad; rw [hnm]; simp [hk0])
                    clear hnm hk0
                    go_wp2_with fail
                    go_meet
                    exact ⟨by rw [HX.out], rfl⟩
              case rest =>
                obtain ⟨rfl, rfl⟩ := hcut
                rw [hrb]
                clear hrb
                have q0 := HN4.out.2.1.cell 0
                have q1 := HN4.out.2.1.cell 1
                have k0 := HN4.out.2.1.frozen 0
                have k1 := HN4.out.2.1.frozen 1
                have p0 := HF4.out.cell 0
                cases rb
                · cases bh
                  · by_cases hf1 : f1 = 0
                    · subst hf1
                      obtain ⟨Al, cl, hvl⟩ := own_formM HM4.out
                      subst hvl
                      obtain ⟨bF, hbF⟩ : ∃ bF, (ms.any fun m => farB len m) = bF := ⟨_, rfl⟩
                      have HbF := Lib.hid hbF
                      have HHit : Hid (((readL rc).2.any (farB rs.length)) = bF) := Lib.hid (by rw [Hrd.out, HL.out]; exact hbF)
                      have hcall := ContainsM_any 102 #[.pointer (some ⟨w.heap.size, 0, none⟩)] _ ms (fun m => farB len m) _ HM4.out.macs (by obtain ⟨_, _, _, _, h, _⟩ := HM4.out.macs; exact h) (fun a W => MuLone.run_callFunc_enter Tryz.func102 (by kernel_rfl) rfl a W) (fun m W hW => by
                        have := far_any m (some ⟨b, off, none⟩) len cr w.heap.size W ((HN4.out.1.below hW HN4.out.1.lt).cell 1) (Nat.lt_of_lt_of_le HN4.out.1.lt hW.size)
                        simpa using this)
                      rw [hbF] at hcall
                      have HCall := Lib.hid hcall
                      clear hcall hbF
                      go_wp2_with fail
                      refine HCall.out.mono ?_
                      rintro e w5 ⟨rfl, hb5⟩
                      have HN5 := Lib.hid (HN4.out.below hb5)
                      have HM5 := Lib.hid (HM4.out.below hb5 rfl)
                      have q0 := HN5.out.2.1.cell 0
                      have q1 := HN5.out.2.1.cell 1
                      have k0 := HN5.out.2.1.frozen 0
                      have k1 := HN5.out.2.1.frozen 1
                      have hz5 := HN5.out.2.1.lt
                      clear hb5 p0
                      cases bF
                      · have HN6 : Hid (∀ j, j < k + 1 → rBadAt gs rs j = 0) := Lib.hid fun j hj => by
                          rcases Nat.lt_or_ge j k with h | h
                          · exact HNb.out j h
                          · obtain rfl : j = k := by omega
                            unfold rBadAt
                            rw [Hg.out]
                            exact rBad_ok Hrb.out Hbh.out (by rw [Hrd.out]) HHit.out
                        obtain ⟨rsv, g1, g2, g3⟩ := HN5.out.2.2.2
                        have G1 := Lib.hid g1
                        have G2 := Lib.hid g2
                        have G3 := Lib.hid g3
                        have hkl : rsv.length ≤ 40 := by rw [g1]; unfold imgCodes; rw [List.length_map, List.length_take]; omega
                        clear g1 g2 g3
                        go_wp2_with (at_builtin; refine app_one rfl _ _ 100 22 rfl (.slice none 0 0) 1 24 Tryz.underlying100 infoCode rfl (by decide) (by decide) (w.heap.size + 1 + 1) u6 _ _ rfl G2.out _ [.slice Al ms.length cl] rfl rfl (fun x hx => by simp at hx; subst hx; rfl) rfl (by omega) (by omega) ?_; intro v4 w6 HA6)
                        go_roundw
                        case rel =>
                          refine ⟨k + 1, by omega, by go_num, HN6, Lib.hid ⟨HA6.out.blk G2.out HN5.out.1 (by decide), HA6.out.blk G2.out HN5.out.2.1 (by decide), HN5.out.2.2.1.trans (HA6.out.below.mono (by omega)), ?_⟩⟩
                          rw [imgCodes_snoc rs k _ Hg.out, Hrd.out]
                          exact CodesOwn.snoc G1.out G2.out G3.out HM5.out HA6.out
                        case measure => simp [intOf]; omega
                      · have HE : Hid (machF gs rs = (3, (k : Int))) := Lib.hid (by
                          have e1 := rBad_far (gs := gs) (n := rs.length) (pre := rs.take k) (r := ⟨rn, rc⟩) Hrb.out Hbh.out (by rw [Hrd.out]) HHit.out
                          rw [machF_hit Hf.out (by rw [HL.out]; omega) Hg.out (by rw [e1]; decide) HNb.out, e1])
                        go_wp2_with fail
                        refine end_tmp_cell rfl rfl (HN5.out.2.1.set2 _ _) Tryz.underlying24 rfl (by kernel_rfl) rfl ⟨_, by rw [HE.out], ?_, (HN5.out.2.2.1.setCell (by simp) _).setCell (by simp) _⟩
                        rw [machL_no HE.out (by simp)]
                        exact CodesOwn.nil _ _
                    · have hfb : (f1 != 0) = true := by simp [hf1]
                      have HE : Hid (machF gs rs = (1, (k : Int))) := Lib.hid (by
                        have e1 := rBad_text (gs := gs) (n := rs.length) (pre := rs.take k) (r := ⟨rn, rc⟩) Hrb.out Hbh.out (by rw [Hrd.out]; exact hf1)
                        rw [machF_hit Hf.out (by rw [HL.out]; omega) Hg.out (by rw [e1]; decide) HNb.out, e1])
                      clear hf1
                      go_wp2_with fail
                      refine end_tmp_cell rfl rfl (HN4.out.2.1.set2 _ _) Tryz.underlying24 rfl (by kernel_rfl) rfl ⟨_, by rw [HE.out], ?_, (HN4.out.2.2.1.setCell (by simp) _).setCell (by simp) _⟩
                      rw [machL_no HE.out (by simp)]
                      exact CodesOwn.nil _ _
                  · have HE : Hid (machF gs rs = (7, (k : Int))) := Lib.hid (by
                      have e1 := rBad_had (gs := gs) (n := rs.length) (pre := rs.take k) (r := ⟨rn, rc⟩) Hrb.out Hbh.out
                      rw [machF_hit Hf.out (by rw [HL.out]; omega) Hg.out (by rw [e1]; decide) HNb.out, e1])
                    go_wp2_with fail
                    refine end_tmp_cell rfl rfl (HN4.out.2.1.set2 _ _) Tryz.underlying24 rfl (by kernel_rfl) rfl ⟨_, by rw [HE.out], ?_, (HN4.out.2.2.1.setCell (by simp) _).setCell (by simp) _⟩
                    rw [machL_no HE.out (by simp)]
                    exact CodesOwn.nil _ _
                · have HE : Hid (machF gs rs = (12, (k : Int))) := Lib.hid (by
                    have e1 := rBad_name (gs := gs) (n := rs.length) (pre := rs.take k) (r := ⟨rn, rc⟩) Hrb.out
                    rw [machF_hit Hf.out (by rw [HL.out]; omega) Hg.out (by rw [e1]; decide) HNb.out, e1])
                  go_wp2_with fail
                  refine end_tmp_cell rfl rfl (HN4.out.2.1.set2 _ _) Tryz.underlying24 rfl (by kernel_rfl) rfl ⟨_, by rw [HE.out], ?_, (HN4.out.2.2.1.setCell (by simp) _).setCell (by simp) _⟩
                  rw [machL_no HE.out (by simp)]
                  exact CodesOwn.nil _ _
          · obtain rfl : k = len := by omega
            have HE := Lib.hid (machF_ok Hf.out (by rw [HL.out]; exact Hl0.out) (by rw [HL.out]; omega) fun j hj => HNb.out j (by have := HL.out; omega))
            have q0 := HN.out.2.1.cell 0
            have q1 := HN.out.2.1.cell 1
            have k0 := HN.out.2.1.frozen 0
            have k1 := HN.out.2.1.frozen 1
            go_wp2_with fail
            refine end_tmp_cell rfl rfl (HN.out.2.1.set2 _ _) Tryz.underlying24 rfl (by kernel_rfl) rfl ⟨_, by rw [HE.out], ?_, (HN.out.2.2.1.setCell (by simp) _).setCell (by simp) _⟩
            rw [machL_ok HE.out]
            have hown := HN.out.2.2.2
            rw [List.take_of_length_le (by rw [HL.out]; exact Nat.le_refl _)] at hown
            exact CodesOwn.more (CodesOwn.set (o := 1) (CodesOwn.set (o := 0) hown (Nat.lt_succ_self _) _) (Nat.lt_succ_self _) _) (by omega)
  · have hf0 : ((globF gs).1 != 0) = true := by simp [hf]
    have HE : Hid (machF gs rs = globF gs) := Lib.hid (by unfold machF; rw [if_pos hf])
    have Hf := Lib.hid hf
    clear hf
    go_wp2_with fail
    go_region
    all_goals
      go_wp2_with fail
      refine end_tmp_cell rfl rfl (HN1.out.2.1.set2 _ _) Tryz.underlying24 rfl (by kernel_rfl) rfl ⟨_, by rw [HE.out], ?_, below_drew ((HN1.out.2.2.1.setCell (by simp) _).setCell (by simp) _)⟩
      rw [machL_no HE.out Hf.out]
      exact CodesOwn.nil _ _
end Go.Proofs.YtdldochhondifaaGreatDoor
namespace Go.Proofs.YtdldochhondifaaGreatDoor
open Go.RowKit

set_option maxRecDepth 100000 in
set_option maxHeartbeats 1000000 in
theorem MCheck_any (gv rv : Value) (gs : List Glob) (rs : List Rout) (w : World) (hg : GlobsAt w w.heap.size gv gs) (hr : RoutsAt w w.heap.size rv rs) (hgo : GOk gs) (hro : ROk rs) (ht : Tab w) :
    Calls Tryz.prog 23 #[.agg #[gv, rv]] w fun e w' => e = .returned (.agg #[.int .i64 (machF gs rs).1, .int .i64 (machF gs rs).2]) ∧ Below w.heap.size w w' := by
  have hA : Below w.heap.size w ((w.alloc (.cells #[gv, rv] 43)).alloc (.cells #[.int .i64 0, .int .i64 0] 24)) := ((Below.refl _ _).alloc (Nat.le_refl _) _).alloc (by simp) _
  have hz : w.heap.size ≤ ((w.alloc (.cells #[gv, rv] 43)).alloc (.cells #[.int .i64 0, .int .i64 0] 24)).heap.size := by simp; omega
  have HC := Lib.hid (load_any gv rv gs rs _ ((hg.below hA (Nat.le_refl _)).more hz) ((hr.below hA (Nat.le_refl _)).more hz) hgo hro (ht.own hA))
  have HA := Lib.hid hA
  have HK : Hid (Blk ((w.alloc (.cells #[gv, rv] 43)).alloc (.cells #[.int .i64 0, .int .i64 0] 24)) (w.heap.size + 1) 24 #[.int .i64 0, .int .i64 0]) := Lib.hid (by have := Blk.new (w.alloc (.cells #[gv, rv] 43)) 24 #[.int .i64 0, .int .i64 0]; simpa using this)
  have hs2 : ((w.alloc (.cells #[gv, rv] 43)).alloc (.cells #[.int .i64 0, .int .i64 0] 24)).heap.size = w.heap.size + 2 := by simp
  obtain ⟨f1, f2, hf⟩ : ∃ f1 f2, machF gs rs = (f1, f2) := ⟨_, _, rfl⟩
  rw [hf] at HC ⊢
  simp only at HC ⊢
  clear hA hz hg hr hgo hro ht hf
  go_enter Tryz.func23, Tryz.ntmps23
  go_wp2_with fail
  generalize (w.alloc (.cells #[gv, rv] 43)).alloc (.cells #[.int .i64 0, .int .i64 0] 24) = W at *
  refine HC.out.mono ?_
  rintro e w1 ⟨v1, rfl, _, hb1⟩
  have hk1 := (HK.out.below hb1 HK.out.lt).alloc (.cells #[.int .i64 f1, .int .i64 f2] 24)
  have hkn := Blk.new w1 24 #[.int .i64 f1, .int .i64 f2]
  have HB := Lib.hid ((HA.out.trans (hb1.mono (by omega))).alloc (by have := hb1.size; omega) (.cells #[.int .i64 f1, .int .i64 f2] 24))
  have q0 := hkn.cell 0
  have q1 := hkn.cell 1
  have k0 := hk1.cell 0
  have k1 := hk1.cell 1
  have g0 := hk1.frozen 0
  have g1 := hk1.frozen 1
  have HK1 := Lib.hid hk1
  clear hb1 hk1 hkn HC hs2
  go_wp2_with fail
  exact end_cell rfl rfl (HK1.out.set2 _ _) Tryz.underlying24 rfl (by kernel_rfl) rfl ⟨rfl, (HB.out.setCell (by simp) _).setCell (by simp) _⟩

/-- What stands while an image is checked. -/
def RefNow (w : World) (gi gr : Nat) (gv rv : Value) (wx : World) : Prop :=
  Blk wx gi 43 #[gv, rv] ∧ Blk wx gr 24 #[.int .i64 0, .int .i64 0] ∧ Below w.heap.size w wx
theorem RefNow.below {w : World} {gi gr : Nat} {gv rv : Value} {wx wy : World} (h : RefNow w gi gr gv rv wx) (hb : Below wx.heap.size wx wy) : RefNow w gi gr gv rv wy :=
  ⟨h.1.below hb h.1.lt, h.2.1.below hb h.2.1.lt, h.2.2.trans (hb.mono h.2.2.size)⟩
theorem RefNow.alloc {w : World} {gi gr : Nat} {gv rv : Value} {wx : World} (h : RefNow w gi gr gv rv wx) (o : Obj) : RefNow w gi gr gv rv (wx.alloc o) := h.below ((Below.refl _ _).alloc (Nat.le_refl _) o)
theorem RefNow.drew {w : World} {gi gr : Nat} {gv rv : Value} {wx : World} (h : RefNow w gi gr gv rv wx) (n : Nat) : RefNow w gi gr gv rv (wx.drewN n) := h.below (below_drewN (Below.refl _ _) n)
theorem hadG_no {gs : List Glob} {rn : ByteArray} (h : ∀ (j : Nat) (g : Glob), gs[j]? = some g → (g.name.toList == rn.toList) = false) : rHadG gs rn = false := by
  unfold rHadG
  rw [List.any_eq_false]
  intro g hg
  obtain ⟨j, hj⟩ := List.mem_iff_getElem?.1 hg
  rw [h j g hj]
  simp
theorem hadG_yes {gs : List Glob} {rn : ByteArray} {j : Nat} {g : Glob} (hg : gs[j]? = some g) (h : (g.name.toList == rn.toList) = true) : rHadG gs rn = true := by
  unfold rHadG
  rw [List.any_eq_true]
  exact ⟨g, List.mem_of_getElem? hg, h⟩
theorem hadR_no {rs : List Rout} {k : Nat} {rn : ByteArray} (h : ∀ (j : Nat) (g : Rout), j < k → rs[j]? = some g → (g.name.toList == rn.toList) = false) : rHadR (rs.take k) rn = false := by
  unfold rHadR
  rw [List.any_eq_false]
  intro g hg
  obtain ⟨j, hj⟩ := List.mem_iff_getElem?.1 hg
  rw [List.getElem?_take] at hj
  split at hj
  · rename_i hlt
    rw [h j g hlt hj]
    simp
  · cases hj
theorem hadR_yes {rs : List Rout} {k j : Nat} {rn : ByteArray} {g : Rout} (hj : j < k) (hg : rs[j]? = some g) (h : (g.name.toList == rn.toList) = true) : rHadR (rs.take k) rn = true := by
  unfold rHadR
  rw [List.any_eq_true]
  refine ⟨g, List.mem_of_getElem? (i := j) ?_, h⟩
  rw [List.getElem?_take, if_pos hj]
  exact hg
theorem far_no {ms : List Mac} {n : Nat} (h : ∀ (j : Nat) (m : Mac), ms[j]? = some m → farB n m = false) : ms.any (farB n) = false := by
  rw [List.any_eq_false]
  intro m hm
  obtain ⟨j, hj⟩ := List.mem_iff_getElem?.1 hm
  rw [h j m hj]
  simp
theorem far_yes {ms : List Mac} {n j : Nat} {m : Mac} (hm : ms[j]? = some m) (h : farB n m = true) : ms.any (farB n) = true := by
  rw [List.any_eq_true]
  exact ⟨m, List.mem_of_getElem? hm, h⟩
end Go.Proofs.YtdldochhondifaaGreatDoor
namespace Go.Proofs.YtdldochhondifaaGreatDoor
open Go.RowKit

set_option maxRecDepth 100000 in
set_option maxHeartbeats 3000000 in
theorem MachineCheck_any (gv rv : Value) (gs : List Glob) (rs : List Rout) (w : World) (hg : GlobsAt w w.heap.size gv gs) (hr : RoutsAt w w.heap.size rv rs) (hgo : GOk gs) (hro : ROk rs) :
    Calls Tryz.prog 42 #[.agg #[gv, rv]] w fun e w' => e = .returned (.agg #[.int .i64 (machF gs rs).1, .int .i64 (machF gs rs).2]) ∧ Below w.heap.size w w' := by
  have HG := Lib.hid hg
  have HR := Lib.hid hr
  have HGo := Lib.hid hgo
  have HRo := Lib.hid hro
  obtain ⟨Ag, cg, hgv, hgc, hg63, _⟩ := hg
  obtain ⟨Ar, cr, hrv, hrc, hr63, _⟩ := hr
  subst hgv
  subst hrv
  obtain ⟨gl, hgl⟩ : ∃ gl, gs.length = gl := ⟨_, rfl⟩
  obtain ⟨len, hlen⟩ : ∃ len, rs.length = len := ⟨_, rfl⟩
  have HLg := Lib.hid hgl
  have HL := Lib.hid hlen
  rw [hgl] at hgc HG ⊢
  rw [hlen] at hrc HR ⊢
  clear hgl hlen hgo hro
  have HA : Hid (Below w.heap.size w ((w.alloc (.cells #[.slice Ag gl cg, .slice Ar len cr] 43)).alloc (.cells #[.int .i64 0, .int .i64 0] 24))) := Lib.hid (((Below.refl _ _).alloc (Nat.le_refl _) _).alloc (by simp) _)
  have hs2 : ((w.alloc (.cells #[.slice Ag gl cg, .slice Ar len cr] 43)).alloc (.cells #[.int .i64 0, .int .i64 0] 24)).heap.size = w.heap.size + 2 := by simp
  have HN : Hid (RefNow w w.heap.size (w.heap.size + 1) (.slice Ag gl cg) (.slice Ar len cr) ((w.alloc (.cells #[.slice Ag gl cg, .slice Ar len cr] 43)).alloc (.cells #[.int .i64 0, .int .i64 0] 24))) := Lib.hid
    ⟨(Blk.new w _ _).alloc _, by have := Blk.new (w.alloc (.cells #[.slice Ag gl cg, .slice Ar len cr] 43)) 24 #[.int .i64 0, .int .i64 0]; simpa using this, HA.out⟩
  go_enter Tryz.func42, Tryz.ntmps42
  go_wp2_with fail
  generalize (w.alloc (.cells #[.slice Ag gl cg, .slice Ar len cr] 43)).alloc (.cells #[.int .i64 0, .int .i64 0] 24) = W at *
  refine (GlobalsFault_any _ gs W ((HG.out.below HA.out (Nat.le_refl _)).more (by omega)) HGo.out).mono ?_
  rintro e w1 ⟨rfl, hb1⟩
  have HN1 := Lib.hid ((HN.out.below hb1).alloc (.cells #[.int .i64 (globF gs).1, .int .i64 (globF gs).2] 24))
  have hk5 := Blk.new w1 24 #[.int .i64 (globF gs).1, .int .i64 (globF gs).2]
  have hz1 : w.heap.size + 2 ≤ w1.heap.size := by have := hb1.size; omega
  have p0 := hk5.cell 0
  have p1 := hk5.cell 1
  have i0 := HN1.out.1.cell 0
  have i1 := HN1.out.1.cell 1
  clear hb1 hk5 HN HA hs2
  by_cases hf : (globF gs).1 = 0
  · have hf0 : ((globF gs).1 != 0) = false := by simp [hf]
    have Hf := Lib.hid hf
    clear hf
    by_cases hl0 : len = 0
    · have HE : Hid (machF gs rs = (6, 0)) := Lib.hid (by unfold machF; rw [if_neg (by rw [Hf.out]; simp), if_pos (by rw [HL.out]; exact hl0)])
      have hlb : ((len : Int) == 0) = true := by simp [hl0]
      clear hl0
      have q0 := HN1.out.2.1.cell 0
      have q1 := HN1.out.2.1.cell 1
      have k0 := HN1.out.2.1.frozen 0
      have k1 := HN1.out.2.1.frozen 1
      go_wp2_with fail
      exact end_cell rfl rfl (HN1.out.2.1.set2 _ _) Tryz.underlying24 rfl (by kernel_rfl) rfl ⟨by rw [HE.out], (HN1.out.2.2.setCell (by simp) _).setCell (by simp) _⟩
    · have hlb : ((len : Int) == 0) = false := by simp [hl0]
      have Hl0 := Lib.hid hl0
      clear hl0
      by_cases hl40 : 40 < len
      · have HE : Hid (machF gs rs = (2, 0)) := Lib.hid (by unfold machF; rw [if_neg (by rw [Hf.out]; simp), if_neg (by rw [HL.out]; exact Hl0.out), if_pos (by rw [HL.out]; exact hl40)])
        have q0 := HN1.out.2.1.cell 0
        have q1 := HN1.out.2.1.cell 1
        have k0 := HN1.out.2.1.frozen 0
        have k1 := HN1.out.2.1.frozen 1
        go_wp2_with fail
        exact end_cell rfl rfl (HN1.out.2.1.set2 _ _) Tryz.underlying24 rfl (by kernel_rfl) rfl ⟨by rw [HE.out], (HN1.out.2.2.setCell (by simp) _).setCell (by simp) _⟩
      · go_wp2_with fail
        generalize w1.alloc (.cells #[.int .i64 (globF gs).1, .int .i64 (globF gs).2] 24) = W1 at *
        go_loopw [4] (fun i wr => ∃ k : Nat, k ≤ len ∧ i = .int .i64 k ∧ Hid (∀ j, j < k → rBadAt gs rs j = 0) ∧ Hid (RefNow w w.heap.size (w.heap.size + 1) (.slice Ag gl cg) (.slice Ar len cr) wr)) (fun i _ => len - (intOf i).toNat)
        case atStart => exact ⟨0, Nat.zero_le _, rfl, Lib.hid (fun j h => absurd h (Nat.not_lt_zero j)), HN1⟩
        case round =>
          obtain ⟨k, hk, rfl, HNb, HN⟩ := hrel
          clear p0 p1 i0 i1 HN1
          have i0 := HN.out.1.cell 0
          have i1 := HN.out.1.cell 1
          have hzw : w.heap.size + 1 < wr.heap.size := HN.out.2.1.lt
          by_cases hlt : k < len
          · obtain ⟨A', c', e, _, _, h3⟩ := HR.out
            obtain ⟨b, off, hA, hbw, hcell⟩ := h3 (by rw [HL.out]; omega)
            obtain rfl : A' = Ar := ((Value.slice.inj e).1).symm
            clear e
            subst hA
            obtain ⟨⟨rn, rc⟩, hg⟩ : ∃ g, rs[k]? = some g := ⟨rs[k]'(by rw [HL.out]; exact hlt), List.getElem?_eq_getElem _⟩
            have HNm : Hid (∀ (j : Nat) (g : Rout), rs[j]? = some g → w.cell? ⟨b, off + j * 2, none⟩ = some (.string g.name)) := Lib.hid fun j g h => by obtain ⟨_, c0, _⟩ := hcell j g h; exact c0
            have Hbw := Lib.hid hbw
            obtain ⟨cv, c0, c1, hbc⟩ := hcell k _ hg
            have hHB := HN.out.2.2
            have c0 := (bcell hHB hbw).trans c0
            have c1 := (bcell hHB hbw).trans c1
            simp only at c0 c1 hbc
            have HBc := Lib.hid hbc
            obtain ⟨Ac, cc, hcv, _⟩ := hbc
            subst hcv
            have Hg := Lib.hid hg
            obtain ⟨hns, hbo⟩ := HRo.out _ (List.mem_of_getElem? hg)
            have hns' : rn.size ≤ 9223372036854775807 := hns
            have HBo := Lib.hid (show BytesOk rc from hbo)
            have HQ : Hid (Blk (wr.alloc (.cells #[.string rn, .slice Ac rc.length cc] 76)) wr.heap.size 76 #[.string rn, .slice Ac rc.length cc]) := Lib.hid (Blk.new _ _ _)
            have HN2 := Lib.hid (HN.out.alloc (.cells #[.string rn, .slice Ac rc.length cc] 76))
            clear hcell h3 hg hns hbo hHB
            go_upto_region 12 with fail
            clear c0 c1 i0 i1 hbw
            generalize hg8 : wr.heap.size = g8 at *
            have Hg8 := Lib.hid hg8
            clear hg8
            generalize wr.alloc (.cells #[.string rn, .slice Ac rc.length cc] 76) = W2 at *
            obtain ⟨rb, hrb⟩ : ∃ rb, rNameBad k rn = rb := ⟨_, rfl⟩
            have Hrb := Lib.hid hrb
            go_cut [52] (fun s wx => s = .bool (rNameBad k rn) ∧ wx = W2)
            case first =>
              have r0 := HQ.out.cell 0
              clear hrb
              go_wp2_with fail
              refine (GoodName_any rn _ hns').mono ?_
              rintro e w' ⟨rfl, rfl⟩
              cases hnm : nameS rn
              · have HX : Hid (rNameBad k rn = true) := Lib.hid (by unfold rNameBad; rw [hnm]; rfl)
                clear hnm
                go_wp2_with fail
                go_meet
                exact ⟨by rw [HX.out], rfl⟩
              · by_cases hk0 : k = 0
                · have hkb : ((k : Int) == 0) = true := by simp [hk0]
                  cases hm : (rn.toList == [109, 97, 105, 110])
                  · have HX : Hid (rNameBad k rn = true) := Lib.hid (by unfold rNameBad isMain; rw [hnm, hm]; simp [hk0])
                    clear hnm hk0
                    go_wp2_with fail
                    go_meet
                    exact ⟨by rw [HX.out], rfl⟩
                  · have HX : Hid (rNameBad k rn = false) := Lib.hid (by unfold rNameBad isMain; rw [hnm, hm]; simp)
                    clear hnm hk0
                    go_wp2_with fail
                    go_meet
                    exact ⟨by rw [HX.out], rfl⟩
                · have hkb : ((k : Int) == 0) = false := by simp [hk0]
                  have HX : Hid (rNameBad k rn = false) := Lib.hid (by unfold rNameBad; rw [hnm]; simp [hk0])
                  clear hnm hk0
                  go_wp2_with fail
                  go_meet
                  exact ⟨by rw [HX.out], rfl⟩
            case rest =>
              obtain ⟨rfl, hW⟩ := hcut
              replace hW := hW.symm
              subst hW
              rw [hrb]
              clear hrb
              cases rb
              · go_wp2_with fail
                obtain ⟨wo, hwo⟩ : ∃ wo : World, wo = W2 := ⟨_, rfl⟩
                subst hwo
                go_loopw [6] (fun q wy => ∃ (j n : Nat), j ≤ gl ∧ q = .int .i64 j ∧ Hid (∀ (i : Nat) (g : Glob), i < j → gs[i]? = some g → (g.name.toList == rn.toList) = false) ∧ wy = wo.drewN n) (fun q _ => gl - (intOf q).toNat)
                case atStart => exact ⟨0, 0, Nat.zero_le _, rfl, Lib.hid (fun i _ h => absurd h (Nat.not_lt_zero i)), rfl⟩
                case round =>
                  obtain ⟨j, n, hj, rfl, HF, rfl⟩ := hrel
                  have i0 := HN2.out.1.cell 0
                  have r0 := HQ.out.cell 0
                  by_cases hjg : j < gl
                  · obtain ⟨Ag', cg', e, _, _, h3⟩ := HG.out
                    obtain ⟨bg, offg, hAg, hbg, hcell⟩ := h3 (by rw [HLg.out]; omega)
                    obtain rfl : Ag' = Ag := ((Value.slice.inj e).1).symm
                    clear e
                    subst hAg
                    obtain ⟨⟨hn, hz, hi⟩, hh⟩ : ∃ g, gs[j]? = some g := ⟨gs[j]'(by rw [HLg.out]; exact hjg), List.getElem?_eq_getElem _⟩
                    obtain ⟨_, d0, _⟩ := hcell j _ hh
                    have d0 := (bcell HN2.out.2.2 hbg).trans d0
                    have Hh := Lib.hid hh
                    simp only at d0
                    have hj0 : (0 : Int) ≤ (j : Int) := Int.natCast_nonneg j
                    have hj1 : (j : Int) < (gl : Int) := by omega
                    clear hh hcell h3 hbg
                    cases heq : (hn.toList == rn.toList)
                    · have Heq := Lib.hid heq
                      go_wp2_with fail
                      go_quiet (fail)
                      go_wp2_with fail
                      go_roundw
                      case rel =>
                        refine ⟨j + 1, _, by omega, by go_num, Lib.hid fun i g hi' hg' => ?_, rfl⟩
                        rcases Nat.lt_or_ge i j with h | h
                        · exact HF.out i g h hg'
                        · obtain rfl : i = j := by omega
                          rw [Hh.out] at hg'
                          cases hg'
                          exact Heq.out
                      case measure => simp [intOf]; omega
                    · have HE : Hid (machF gs rs = (7, (k : Int))) := Lib.hid (by
                        have e1 := rBad_had (gs := gs) (n := rs.length) (pre := rs.take k) (r := ⟨rn, rc⟩) Hrb.out (by rw [hadG_yes Hh.out heq]; rfl)
                        rw [machF_hit Hf.out (by rw [HL.out]; omega) Hg.out (by rw [e1]; decide) HNb.out, e1])
                      have q0 := HN2.out.2.1.cell 0
                      have q1 := HN2.out.2.1.cell 1
                      have k0 := HN2.out.2.1.frozen 0
                      have k1 := HN2.out.2.1.frozen 1
                      go_wp2_with fail
                      go_quiet (fail)
                      go_wp2_with fail
                      exact end_cell rfl rfl ((show Blk (World.drewN _ _) _ _ _ from HN2.out.2.1).set2 _ _) Tryz.underlying24 rfl (by kernel_rfl) rfl ⟨by rw [HE.out], ((below_drewN HN2.out.2.2 _).setCell (by simp) _).setCell (by simp) _⟩
                  · have HGno := Lib.hid (hadG_no (gs := gs) (rn := rn) fun i g hg' => HF.out i g (by have := (List.getElem?_eq_some_iff.1 hg').1; have := HLg.out; omega) hg')
                    go_wp2_with fail
                    have HN3 : Hid (RefNow w w.heap.size (w.heap.size + 1) (.slice Ag gl cg) (.slice (some ⟨b, off, none⟩) len cr) (wo.drewN n)) := Lib.hid (HN2.out.drew n)
                    have HQ3 : Hid (Blk (wo.drewN n) g8 76 #[.string rn, .slice Ac rc.length cc]) := Lib.hid HQ.out
                    clear i0 r0 HN2 HQ
                    generalize wo.drewN n = V at *
                    clear HF hjg hj
                    go_loopw [7] (fun q wy => ∃ (j n : Nat), j ≤ k ∧ q = .int .i64 j ∧ Hid (∀ (i : Nat) (g : Rout), i < j → rs[i]? = some g → (g.name.toList == rn.toList) = false) ∧ wy = V.drewN n) (fun q _ => k - (intOf q).toNat)
                    case atStart => exact ⟨0, 0, Nat.zero_le _, rfl, Lib.hid (fun i _ h => absurd h (Nat.not_lt_zero i)), rfl⟩
                    case round =>
                      obtain ⟨j, n, hj, rfl, HF, rfl⟩ := hrel
                      have i1 := HN3.out.1.cell 1
                      have r0 := HQ3.out.cell 0
                      by_cases hjk : j < k
                      · obtain ⟨⟨hn, hc⟩, hh⟩ : ∃ g, rs[j]? = some g := ⟨rs[j]'(by rw [HL.out]; omega), List.getElem?_eq_getElem _⟩
                        have d0 := (bcell HN3.out.2.2 Hbw.out).trans (HNm.out j _ hh)
                        have Hh := Lib.hid hh
                        simp only at d0
                        have hj0 : (0 : Int) ≤ (j : Int) := Int.natCast_nonneg j
                        have hj1 : (j : Int) < (len : Int) := by omega
                        clear hh
                        cases heq : (hn.toList == rn.toList)
                        · have Heq := Lib.hid heq
                          go_wp2_with fail
                          go_quiet (fail)
                          go_wp2_with fail
                          go_roundw
                          case rel =>
                            refine ⟨j + 1, _, by omega, by go_num, Lib.hid fun i g hi' hg' => ?_, rfl⟩
                            rcases Nat.lt_or_ge i j with h | h
                            · exact HF.out i g h hg'
                            · obtain rfl : i = j := by omega
                              rw [Hh.out] at hg'
                              cases hg'
                              exact Heq.out
                          case measure => simp [intOf]; omega
                        · have HE : Hid (machF gs rs = (7, (k : Int))) := Lib.hid (by
                            have e1 := rBad_had (gs := gs) (n := rs.length) (pre := rs.take k) (r := ⟨rn, rc⟩) Hrb.out (by rw [hadR_yes hjk Hh.out heq]; simp)
                            rw [machF_hit Hf.out (by rw [HL.out]; omega) Hg.out (by rw [e1]; decide) HNb.out, e1])
                          have q0 := HN3.out.2.1.cell 0
                          have q1 := HN3.out.2.1.cell 1
                          have k0 := HN3.out.2.1.frozen 0
                          have k1 := HN3.out.2.1.frozen 1
                          go_wp2_with fail
                          go_quiet (fail)
                          go_wp2_with fail
                          exact end_cell rfl rfl ((show Blk (World.drewN _ _) _ _ _ from HN3.out.2.1).set2 _ _) Tryz.underlying24 rfl (by kernel_rfl) rfl ⟨by rw [HE.out], ((below_drewN HN3.out.2.2 _).setCell (by simp) _).setCell (by simp) _⟩
                      · obtain rfl : j = k := by omega
                        have Hbh : Hid ((rHadG gs rn || rHadR (rs.take j) rn) = false) := Lib.hid (by rw [HGno.out, hadR_no HF.out]; rfl)
                        have HN4 : Hid (RefNow w w.heap.size (w.heap.size + 1) (.slice Ag gl cg) (.slice (some ⟨b, off, none⟩) len cr) (V.drewN n)) := Lib.hid (HN3.out.drew n)
                        have HQ4 : Hid (Blk (V.drewN n) g8 76 #[.string rn, .slice Ac rc.length cc]) := Lib.hid HQ3.out
                        clear i1 r0 HN3 HQ3 HF hjk hj
                        obtain ⟨f1, f2, ms, hrd⟩ : ∃ f1 f2 ms, readL rc = ((f1, f2), ms) := ⟨_, _, _, rfl⟩
                        have Hrd := Lib.hid hrd
                        have r1 := HQ4.out.cell 1
                        have hcall := BytesRead_any (.slice Ac rc.length cc) rc _ ((HBc.out.below HN4.out.2.2 (Nat.le_refl _)).more HN4.out.2.2.size) HBo.out
                        rw [hrd] at hcall
                        simp only at hcall
                        have HCall := Lib.hid hcall
                        clear hrd hcall
                        go_wp2_with fail
                        refine HCall.out.mono ?_
                        rintro e w3 ⟨vl, rfl, hml, hb3⟩
                        have HN5 := Lib.hid ((HN4.out.below hb3).alloc (.cells #[.int .i64 f1, .int .i64 f2] 24))
                        have hkn := Blk.new w3 24 #[.int .i64 f1, .int .i64 f2]
                        have p0 := hkn.cell 0
                        have HM5 := Lib.hid (OwnMacs.macs (World.ownsRow.alloc hml (.cells #[.int .i64 f1, .int .i64 f2] 24)))
                        obtain ⟨Al, cl, hvl⟩ := own_formM hml
                        subst hvl
                        clear hb3 hml r1 HCall hkn
                        by_cases hf1 : f1 = 0
                        · subst hf1
                          go_wp2_with fail
                          generalize w3.alloc (.cells #[.int .i64 0, .int .i64 f2] 24) = W5 at *
                          clear p0
                          obtain ⟨ml, hml⟩ : ∃ ml, ms.length = ml := ⟨_, rfl⟩
                          have Hml := Lib.hid hml
                          have hml63 : ml ≤ 9223372036854775807 := by obtain ⟨_, _, _, _, h, _⟩ := HM5.out; omega
                          rw [hml] at HM5 ⊢
                          clear hml
                          go_loopw [10] (fun q wy => ∃ (i n : Nat), i ≤ ml ∧ q = .int .i64 i ∧ Hid (∀ (t : Nat) (m : Mac), t < i → ms[t]? = some m → farB len m = false) ∧ wy = W5.drewN n) (fun q _ => ml - (intOf q).toNat)
                          case atStart => exact ⟨0, 0, Nat.zero_le _, rfl, Lib.hid (fun i _ h => absurd h (Nat.not_lt_zero i)), rfl⟩
                          case round =>
                            obtain ⟨i, n, hi, rfl, HF, rfl⟩ := hrel
                            have i1 := HN5.out.1.cell 1
                            by_cases him : i < ml
                            · obtain ⟨Al', cl', e, hl1, _, h3⟩ := HM5.out
                              obtain ⟨bm, offm, hAm, hbm, hcell⟩ := h3 (by rw [Hml.out]; omega)
                              obtain rfl : Al' = Al := ((Value.slice.inj e).1).symm
                              clear e
                              subst hAm
                              obtain ⟨⟨mo, md, ma, mb, mn⟩, hh⟩ : ∃ m, ms[i]? = some m := ⟨ms[i]'(by rw [Hml.out]; exact him), List.getElem?_eq_getElem _⟩
                              obtain ⟨c0, _, _, _, c4⟩ := hcell i _ hh
                              have Hh := Lib.hid hh
                              simp only at c0 c4
                              have hj0 : (0 : Int) ≤ (i : Int) := Int.natCast_nonneg i
                              have hj1 : (i : Int) < (ml : Int) := by omega
                              clear hh hcell h3 hbm hl1
                              by_cases ho : mo = 44
                              · have hb1 : (mo == 44) = true := by simp [ho]
                                by_cases hfar : (len : Int) ≤ mn
                                · have Hfar : Hid (farB len ⟨mo, md, ma, mb, mn⟩ = true) := Lib.hid (by unfold farB; simp only; rw [hb1, Bool.true_and, decide_eq_true_eq]; exact hfar)
                                  have hd : decide ((len : Int) ≤ mn) = true := by rw [decide_eq_true_eq]; exact hfar
                                  clear ho
                                  have HE : Hid (machF gs rs = (3, (j : Int))) := Lib.hid (by
                                    have e1 := rBad_far (gs := gs) (n := rs.length) (pre := rs.take j) (r := ⟨rn, rc⟩) Hrb.out Hbh.out (by rw [Hrd.out]) (by rw [Hrd.out, HL.out]; exact far_yes Hh.out Hfar.out)
                                    rw [machF_hit Hf.out (by rw [HL.out]; omega) Hg.out (by rw [e1]; decide) HNb.out, e1])
                                  have q0 := HN5.out.2.1.cell 0
                                  have q1 := HN5.out.2.1.cell 1
                                  have k0 := HN5.out.2.1.frozen 0
                                  have k1 := HN5.out.2.1.frozen 1
                                  go_wp2_with fail
                                  go_quiet (fail)
                                  go_wp2_with fail
                                  exact end_cell rfl rfl ((show Blk (World.drewN _ _) _ _ _ from HN5.out.2.1).set2 _ _) Tryz.underlying24 rfl (by kernel_rfl) rfl ⟨by rw [HE.out], ((below_drewN HN5.out.2.2 _).setCell (by simp) _).setCell (by simp) _⟩
                                · have Hfar : Hid (farB len ⟨mo, md, ma, mb, mn⟩ = false) := Lib.hid (by unfold farB; simp only; rw [hb1, Bool.true_and, decide_eq_false_iff_not]; exact hfar)
                                  have hd : decide ((len : Int) ≤ mn) = false := by rw [decide_eq_false_iff_not]; exact hfar
                                  clear ho
                                  go_wp2_with fail
                                  go_quiet (fail)
                                  go_wp2_with fail
                                  go_roundw
                                  case rel =>
                                    refine ⟨i + 1, _, by omega, by go_num, Lib.hid fun t m ht' hm' => ?_, rfl⟩
                                    rcases Nat.lt_or_ge t i with h | h
                                    · exact HF.out t m h hm'
                                    · obtain rfl : t = i := by omega
                                      rw [Hh.out] at hm'
                                      cases hm'
                                      exact Hfar.out
                                  case measure => simp [intOf]; omega
                              · have hb1 : (mo == 44) = false := by simp [ho]
                                have Hfar : Hid (farB len ⟨mo, md, ma, mb, mn⟩ = false) := Lib.hid (by unfold farB; simp only; rw [hb1, Bool.false_and])
                                clear ho
                                go_wp2_with fail
                                go_quiet (fail)
                                go_wp2_with fail
                                go_roundw
                                case rel =>
                                  refine ⟨i + 1, _, by omega, by go_num, Lib.hid fun t m ht' hm' => ?_, rfl⟩
                                  rcases Nat.lt_or_ge t i with h | h
                                  · exact HF.out t m h hm'
                                  · obtain rfl : t = i := by omega
                                    rw [Hh.out] at hm'
                                    cases hm'
                                    exact Hfar.out
                                case measure => simp [intOf]; omega
                            · have hno := far_no (ms := ms) (n := len) fun t m hm' => HF.out t m (by have := (List.getElem?_eq_some_iff.1 hm').1; have := Hml.out; omega) hm'
                              have HN6 : Hid (∀ t, t < j + 1 → rBadAt gs rs t = 0) := Lib.hid fun t ht' => by
                                rcases Nat.lt_or_ge t j with h | h
                                · exact HNb.out t h
                                · obtain rfl : t = j := by omega
                                  unfold rBadAt
                                  rw [Hg.out]
                                  exact rBad_ok Hrb.out Hbh.out (by rw [Hrd.out]) (by rw [Hrd.out, HL.out]; exact hno)
                              clear hno
                              go_wp2_with fail
                              go_roundw
                              case rel => exact ⟨j + 1, by omega, by go_num, HN6, Lib.hid (HN5.out.drew n)⟩
                              case measure => simp [intOf]; omega
                        · have hfb : (f1 != 0) = true := by simp [hf1]
                          have HE : Hid (machF gs rs = (1, (j : Int))) := Lib.hid (by
                            have e1 := rBad_text (gs := gs) (n := rs.length) (pre := rs.take j) (r := ⟨rn, rc⟩) Hrb.out Hbh.out (by rw [Hrd.out]; exact hf1)
                            rw [machF_hit Hf.out (by rw [HL.out]; omega) Hg.out (by rw [e1]; decide) HNb.out, e1])
                          clear hf1
                          have q0 := HN5.out.2.1.cell 0
                          have q1 := HN5.out.2.1.cell 1
                          have k0 := HN5.out.2.1.frozen 0
                          have k1 := HN5.out.2.1.frozen 1
                          go_wp2_with fail
                          exact end_cell rfl rfl (HN5.out.2.1.set2 _ _) Tryz.underlying24 rfl (by kernel_rfl) rfl ⟨by rw [HE.out], (HN5.out.2.2.setCell (by simp) _).setCell (by simp) _⟩
              · have HE : Hid (machF gs rs = (12, (k : Int))) := Lib.hid (by
                  have e1 := rBad_name (gs := gs) (n := rs.length) (pre := rs.take k) (r := ⟨rn, rc⟩) Hrb.out
                  rw [machF_hit Hf.out (by rw [HL.out]; omega) Hg.out (by rw [e1]; decide) HNb.out, e1])
                have q0 := HN2.out.2.1.cell 0
                have q1 := HN2.out.2.1.cell 1
                have k0 := HN2.out.2.1.frozen 0
                have k1 := HN2.out.2.1.frozen 1
                go_wp2_with fail
                exact end_cell rfl rfl (HN2.out.2.1.set2 _ _) Tryz.underlying24 rfl (by kernel_rfl) rfl ⟨by rw [HE.out], (HN2.out.2.2.setCell (by simp) _).setCell (by simp) _⟩
          · obtain rfl : k = len := by omega
            have HE := Lib.hid (machF_ok Hf.out (by rw [HL.out]; exact Hl0.out) (by rw [HL.out]; omega) fun j hj => HNb.out j (by have := HL.out; omega))
            have q0 := HN.out.2.1.cell 0
            have q1 := HN.out.2.1.cell 1
            have k0 := HN.out.2.1.frozen 0
            have k1 := HN.out.2.1.frozen 1
            go_wp2_with fail
            exact end_cell rfl rfl (HN.out.2.1.set2 _ _) Tryz.underlying24 rfl (by kernel_rfl) rfl ⟨by rw [HE.out], (HN.out.2.2.setCell (by simp) _).setCell (by simp) _⟩
  · have hf0 : ((globF gs).1 != 0) = true := by simp [hf]
    have HE : Hid (machF gs rs = globF gs) := Lib.hid (by unfold machF; rw [if_pos hf])
    clear hf
    have q0 := HN1.out.2.1.cell 0
    have q1 := HN1.out.2.1.cell 1
    have k0 := HN1.out.2.1.frozen 0
    have k1 := HN1.out.2.1.frozen 1
    go_wp2_with fail
    exact end_cell rfl rfl (HN1.out.2.1.set2 _ _) Tryz.underlying24 rfl (by kernel_rfl) rfl ⟨by rw [HE.out], (HN1.out.2.2.setCell (by simp) _).setCell (by simp) _⟩
end Go.Proofs.YtdldochhondifaaGreatDoor
namespace Go.Proofs.YtdldochhondifaaGreatDoor
open Go.RowKit
end Go.Proofs.YtdldochhondifaaGreatDoor
namespace Go.Proofs.YtdldochhondifaaGreatDoor
open Go.ChangeShapes Go.WideShapes Go.ChangeAt Go.RowKit Go.Deep

instance : Inhabited Glob := ⟨⟨⟨#[]⟩, 0, []⟩⟩
instance : Inhabited Rout := ⟨⟨⟨#[]⟩, []⟩⟩
section
variable {H : Type} {enc : TypeId × Value → H} {w : World} {fuel : Nat}
theorem cStr : Tryz.prog.cellsOf 9 = 1 := by kernel_rfl
end
end Go.Proofs.YtdldochhondifaaGreatDoor
