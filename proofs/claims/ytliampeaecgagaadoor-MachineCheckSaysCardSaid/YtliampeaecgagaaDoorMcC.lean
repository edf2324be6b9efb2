/-
  What is wrong with globals (plain); contract of machine.Globals.
  Conditions: the slice reads as globals.
-/
import Derived.Test.YtliampeaecgagaaDoorMcA
import Derived.Test.YtliampeaecgagaaDoorMcB
import Derived.RegionTactic
import Derived.Conc.MuLone
namespace Go.Proofs.YtliampeaecgagaaDoor
open Go.RowKit

def sumG (gs : List Glob) : Int := (gs.map fun g => g.size).foldl (· + ·) 0
theorem sumG_snoc (gs : List Glob) (k : Nat) (g : Glob) (h : gs[k]? = some g) : sumG (gs.take (k + 1)) = sumG (gs.take k) + g.size := by
  unfold sumG
  have hlt := (List.getElem?_eq_some_iff.1 h).1
  rw [List.take_succ_eq_append_getElem hlt, (List.getElem?_eq_some_iff.1 h).2, List.map_append, List.foldl_append]
  rfl
/-- What is wrong with a global, those ahead of it given. -/
def gBad (pre : List Glob) (g : Glob) : Int :=
  if nameS g.name = false then 12 else if (pre.any fun h => h.name.toList == g.name.toList) = true then 7 else if ¬ (1 ≤ g.size ∧ g.size ≤ 200) then 3
  else if g.size < (g.init.length : Int) then 9 else if 200 < sumG pre + g.size then 10 else 0
def gBadAt (gs : List Glob) (k : Nat) : Int := match gs[k]? with
  | some g => gBad (gs.take k) g
  | none => 0
/-- The first fault of a row of places. -/
def firstBad (bad : Nat → Int) (n : Nat) : Int × Int := match (List.range n).find? (fun i => bad i != 0) with
  | some i => (bad i, (i : Int))
  | none => (0, 0)
theorem firstBad_hit {bad : Nat → Int} {n k : Nat} (hk : k < n) (h : bad k ≠ 0) (hb : ∀ j, j < k → bad j = 0) : firstBad bad n = (bad k, (k : Int)) := by
  have : (List.range n).find? (fun i => bad i != 0) = some k := by
    rw [List.find?_eq_some_iff_getElem]
    refine ⟨by simpa using h, k, by simpa using hk, by simp, fun j hj => ?_⟩
    simp [hb j hj]
  unfold firstBad
  rw [this]
theorem firstBad_ok {bad : Nat → Int} {n : Nat} (hb : ∀ j, j < n → bad j = 0) : firstBad bad n = (0, 0) := by
  have : (List.range n).find? (fun i => bad i != 0) = none := by
    rw [List.find?_eq_none]
    intro j hj
    simp [hb j (by simpa using hj)]
  unfold firstBad
  rw [this]
def globF (gs : List Glob) : Int × Int := if 10 < gs.length then (2, 0) else firstBad (gBadAt gs) gs.length
theorem globF_hit {gs : List Glob} {k : Nat} {g : Glob} (hl : gs.length ≤ 10) (hk : gs[k]? = some g) (h : gBad (gs.take k) g ≠ 0) (hb : ∀ j, j < k → gBadAt gs j = 0) : globF gs = (gBad (gs.take k) g, (k : Int)) := by
  have e : gBadAt gs k = gBad (gs.take k) g := by unfold gBadAt; rw [hk]
  unfold globF
  rw [if_neg (by omega), firstBad_hit (List.getElem?_eq_some_iff.1 hk).1 (by rw [e]; exact h) hb, e]
theorem globF_ok {gs : List Glob} (hl : gs.length ≤ 10) (hb : ∀ j, j < gs.length → gBadAt gs j = 0) : globF gs = (0, 0) := by
  unfold globF
  rw [if_neg (by omega), firstBad_ok hb]
theorem gBad_name {pre : List Glob} {g : Glob} (h : nameS g.name = false) : gBad pre g = 12 := by unfold gBad; rw [if_pos h]
theorem gBad_had {pre : List Glob} {g : Glob} (h : nameS g.name = true) (h2 : (pre.any fun h => h.name.toList == g.name.toList) = true) : gBad pre g = 7 := by unfold gBad; rw [if_neg (by rw [h]; simp), if_pos h2]
theorem gBad_range {pre : List Glob} {g : Glob} (h : nameS g.name = true) (h2 : (pre.any fun h => h.name.toList == g.name.toList) = false) (h3 : ¬ (1 ≤ g.size ∧ g.size ≤ 200)) : gBad pre g = 3 := by
  unfold gBad; rw [if_neg (by rw [h]; simp), if_neg (by rw [h2]; simp), if_pos h3]
theorem gBad_size {pre : List Glob} {g : Glob} (h : nameS g.name = true) (h2 : (pre.any fun h => h.name.toList == g.name.toList) = false) (h3 : 1 ≤ g.size ∧ g.size ≤ 200) (h4 : g.size < (g.init.length : Int)) : gBad pre g = 9 := by
  unfold gBad; rw [if_neg (by rw [h]; simp), if_neg (by rw [h2]; simp), if_neg (by simpa using h3), if_pos h4]
theorem gBad_much {pre : List Glob} {g : Glob} (h : nameS g.name = true) (h2 : (pre.any fun h => h.name.toList == g.name.toList) = false) (h3 : 1 ≤ g.size ∧ g.size ≤ 200) (h4 : ¬ g.size < (g.init.length : Int)) (h5 : 200 < sumG pre + g.size) : gBad pre g = 10 := by
  unfold gBad; rw [if_neg (by rw [h]; simp), if_neg (by rw [h2]; simp), if_neg (by simpa using h3), if_neg h4, if_pos h5]
theorem gBad_ok {pre : List Glob} {g : Glob} (h : nameS g.name = true) (h2 : (pre.any fun h => h.name.toList == g.name.toList) = false) (h3 : 1 ≤ g.size ∧ g.size ≤ 200) (h4 : ¬ g.size < (g.init.length : Int)) (h5 : ¬ 200 < sumG pre + g.size) : gBad pre g = 0 := by
  unfold gBad; rw [if_neg (by rw [h]; simp), if_neg (by rw [h2]; simp), if_neg (by simpa using h3), if_neg h4, if_neg h5]
theorem GlobsAt.take {w : World} {B len c : Nat} {A : Option Addr} {gs : List Glob} (h : GlobsAt w B (.slice A len c) gs) {k : Nat} (hk : k ≤ len) : GlobsAt w B (.slice A k c) (gs.take k) := by
  obtain ⟨A', c', e, h1, h2, h3⟩ := h
  have hl : gs.length = len := by cases e; rfl
  have hlk : (gs.take k).length = k := by rw [List.length_take]; omega
  refine ⟨A, c, by rw [hlk], ?_, ?_, fun hp => ?_⟩
  · cases e; rw [hlk]; omega
  · cases e; exact h2
  · obtain ⟨b, off, e1, e2, e3⟩ := h3 (by rw [hlk] at hp; omega)
    cases e
    refine ⟨b, off, e1, e2, fun j g hj => e3 j g ?_⟩
    rw [List.getElem?_take] at hj
    split at hj
    · exact hj
    · cases hj

set_option maxRecDepth 100000 in
set_option maxHeartbeats 1000000 in
theorem sameName_any (s gn : ByteArray) (n : Int) (iv : Value) (gb : Nat) (w : World) (hc : w.cell? ⟨gb, 0, none⟩ = some (.string gn)) (hb : gb < w.heap.size) :
    Calls Tryd.prog 95 #[.agg #[.string s, .int .i64 n, iv], .pointer (some ⟨gb, 0, none⟩)] w fun e w' => e = .returned (.bool (s.toList == gn.toList)) ∧ Below w.heap.size w w' := by
  go_enter Tryd.func95, Tryd.ntmps95
  go_wp2_with fail
  go_ret
  exact ⟨rfl, (Below.refl _ _).alloc (Nat.le_refl _) _⟩

def GlobPost (w : World) (f : Int × Int) (e : Ending) (w' : World) : Prop := ∃ n : Int, e = .returned (.tuple #[.int .i64 n, .agg #[.int .i64 f.1, .int .i64 f.2]]) ∧ Below w.heap.size w w'
set_option maxRecDepth 100000 in
set_option maxHeartbeats 2000000 in
theorem Globals_any (v : Value) (gs : List Glob) (w : World) (hv : GlobsAt w w.heap.size v gs) (hsz : ∀ g ∈ gs, g.name.size ≤ 9223372036854775807 ∧ I64 g.size) :
    Calls Tryd.prog 71 #[v] w (GlobPost w (globF gs)) := by
  have HV := Lib.hid hv
  have HSz := Lib.hid hsz
  obtain ⟨A, c, hvv, hlc, h63, _⟩ := hv
  subst hvv
  obtain ⟨len, hlen⟩ : ∃ len, gs.length = len := ⟨_, rfl⟩
  have HL := Lib.hid hlen
  rw [hlen] at hlc HV ⊢
  clear hlen hsz
  by_cases hbig : 10 < len
  · have HE : Hid (globF gs = (2, 0)) := Lib.hid (by unfold globF; rw [if_pos (by rw [HL.out]; exact hbig)])
    go_enter Tryd.func71, Tryd.ntmps71
    go_wp2_with fail
    exact end_tmp_cell rfl rfl (Blk.new _ _ _) Tryd.underlying25 rfl (by kernel_rfl) rfl ⟨0, by rw [HE.out]; rfl, (Below.refl _ _).alloc (Nat.le_refl _) _⟩
  · have HBig := Lib.hid hbig
    have hl10 : len ≤ 10 := by omega
    have HW0 : Hid (Below w.heap.size w (w.alloc (.cells #[.int .i64 0, .int .i64 0] 25))) := Lib.hid ((Below.refl _ _).alloc (Nat.le_refl _) _)
    have HK0 : Hid (Blk (w.alloc (.cells #[.int .i64 0, .int .i64 0] 25)) w.heap.size 25 #[.int .i64 0, .int .i64 0]) := Lib.hid (Blk.new w _ _)
    clear hbig
    go_enter Tryd.func71, Tryd.ntmps71
    go_wp2_with fail
    generalize w.alloc (.cells #[.int .i64 0, .int .i64 0] 25) = W at *
    go_loopw [4, 14] (fun n i wr => ∃ (k : Nat) (z : Int), k ≤ len ∧ i = .int .i64 k ∧ n = .int .i64 z ∧ Hid (z = sumG (gs.take k)) ∧ 0 ≤ z ∧ z ≤ 200 ∧ Hid (∀ j, j < k → gBadAt gs j = 0) ∧ Hid (Blk wr w.heap.size 25 #[.int .i64 0, .int .i64 0]) ∧ Hid (Below w.heap.size w wr)) (fun _ i _ => len - (intOf i).toNat)
    case atStart => exact ⟨0, 0, Nat.zero_le _, rfl, rfl, Lib.hid rfl, by omega, by omega, Lib.hid (fun j h => absurd h (Nat.not_lt_zero j)), HK0, HW0⟩
    case round =>
      obtain ⟨k, z, hk, rfl, rfl, Hz, hz0, hz1, HN, HK, HB⟩ := hrel
      clear HW0 HK0
      have hzw : w.heap.size < wr.heap.size := HK.out.lt
      by_cases hlt : k < len
      · obtain ⟨A', c', e, _, _, h3⟩ := HV.out
        obtain ⟨b, off, hA, hbw, hcell⟩ := h3 (by rw [HL.out]; omega)
        obtain rfl : A' = A := ((Value.slice.inj e).1).symm
        clear e
        subst hA
        obtain ⟨⟨gn, gz, gi⟩, hg⟩ : ∃ g, gs[k]? = some g := ⟨gs[k]'(by rw [HL.out]; exact hlt), List.getElem?_eq_getElem _⟩
        obtain ⟨iv, c0, c1, c2, hiv⟩ := hcell k _ hg
        have c0 := (bcell HB.out hbw).trans c0
        have c1 := (bcell HB.out hbw).trans c1
        have c2 := (bcell HB.out hbw).trans c2
        obtain ⟨Ai, ci, hivv, hic, hi63, _⟩ := hiv
        subst hivv
        obtain ⟨il, hil⟩ : ∃ il, gi.length = il := ⟨_, rfl⟩
        have Hil := Lib.hid hil
        simp only at c0 c1 c2 hic
        rw [hil] at c2 hic
        have Hg := Lib.hid hg
        obtain ⟨hns, hgi⟩ := HSz.out _ (List.mem_of_getElem? hg)
        have hns' : gn.size ≤ 9223372036854775807 := hns
        have hgz0 : -9223372036854775808 ≤ gz := hgi.1
        have hgz1 : gz ≤ 9223372036854775807 := hgi.2
        have HGb : Hid (Blk (wr.alloc (.cells #[.string gn, .int .i64 gz, .slice Ai il ci] 86)) wr.heap.size 86 #[.string gn, .int .i64 gz, .slice Ai il ci]) := Lib.hid (Blk.new _ _ _)
        have HB1 := Lib.hid (HB.out.alloc (Nat.le_of_lt hzw) (.cells #[.string gn, .int .i64 gz, .slice Ai il ci] 86))
        have HK1 := Lib.hid (HK.out.alloc (.cells #[.string gn, .int .i64 gz, .slice Ai il ci] 86))
        clear hcell h3 hg hil hns hgi
        go_wp2_with fail
        refine (ContainsG_any 95 #[.pointer (some ⟨wr.heap.size, 0, none⟩)] _ (gs.take k) (fun s => s.toList == gn.toList) _ (((HV.out.take (Nat.le_of_lt hlt)).below HB1.out (Nat.le_refl _)).more HB1.out.size) (by rw [List.length_take]; omega) (fun a W => MuLone.run_callFunc_enter Tryd.func95 (by kernel_rfl) rfl a W) (fun s n iv W hW => ?_)).mono ?_
        · have hlt' := HGb.out.lt
          have := sameName_any s gn n iv wr.heap.size W ((HGb.out.below hW hlt').cell 0) (Nat.lt_of_lt_of_le hlt' hW.size)
          simpa using this
        rintro e w2 ⟨rfl, hb2⟩
        have hg2 := HGb.out.below hb2 HGb.out.lt
        have hk2 := HK1.out.below hb2 HK1.out.lt
        have HB2 := Lib.hid (HB1.out.trans (hb2.mono HB1.out.size))
        have r0 := hg2.cell 0
        have r1 := hg2.cell 1
        have r2 := hg2.cell 2
        have q0 := hk2.cell 0
        have q1 := hk2.cell 1
        have k0 := hk2.frozen 0
        have k1 := hk2.frozen 1
        have HK2 := Lib.hid hk2
        obtain ⟨bh, hbh⟩ : ∃ bh, ((gs.take k).any fun h => h.name.toList == gn.toList) = bh := ⟨_, rfl⟩
        have Hbh := Lib.hid hbh
        rw [hbh]
        clear hb2 hg2 hk2 hbh c0 c1 c2
        go_wp2_with fail
        refine (Name_any gn _ hns').mono ?_
        rintro e w' ⟨rfl, rfl⟩
        cases hnm : nameS gn
        · have HE : Hid (globF gs = (12, (k : Int))) := Lib.hid (by
            have e1 := gBad_name (pre := gs.take k) (g := ⟨gn, gz, gi⟩) hnm
            rw [globF_hit (by rw [HL.out]; exact hl10) Hg.out (by rw [e1]; decide) HN.out, e1])
          clear hnm
          go_wp2_with fail
          refine end_tmp_cell rfl rfl (HK2.out.set2 _ _) Tryd.underlying25 rfl (by kernel_rfl) rfl ⟨0, by rw [HE.out]; rfl, (HB2.out.setCell (by simp) _).setCell (by simp) _⟩
        · have Hnm := Lib.hid hnm
          clear hnm
          cases bh
          · by_cases hr : 1 ≤ gz ∧ gz ≤ 200
            · have Hr := Lib.hid hr
              obtain ⟨hr1, hr2⟩ := hr
              have hwi := Within_any gz 1 200 w2
              rw [show decide (1 ≤ gz ∧ gz ≤ 200) = true by rw [decide_eq_true_eq]; exact Hr.out] at hwi
              have HWi := Lib.hid hwi
              clear hwi
              go_wp2_with fail
              refine HWi.out.mono ?_
              rintro e w' ⟨rfl, rfl⟩
              by_cases hil : gz < (il : Int)
              · have HE : Hid (globF gs = (9, (k : Int))) := Lib.hid (by
                  have e1 := gBad_size (pre := gs.take k) (g := ⟨gn, gz, gi⟩) Hnm.out Hbh.out Hr.out (by simp only; rw [Hil.out]; exact hil)
                  rw [globF_hit (by rw [HL.out]; exact hl10) Hg.out (by rw [e1]; decide) HN.out, e1])
                go_wp2_with fail
                refine end_tmp_cell rfl rfl (HK2.out.set2 _ _) Tryd.underlying25 rfl (by kernel_rfl) rfl ⟨0, by rw [HE.out]; rfl, (HB2.out.setCell (by simp) _).setCell (by simp) _⟩
              · by_cases hmu : 200 < z + gz
                · have HE : Hid (globF gs = (10, (k : Int))) := Lib.hid (by
                    have e1 := gBad_much (pre := gs.take k) (g := ⟨gn, gz, gi⟩) Hnm.out Hbh.out Hr.out (by simp only; rw [Hil.out]; exact hil) (by simp only; rw [← Hz.out]; exact hmu)
                    rw [globF_hit (by rw [HL.out]; exact hl10) Hg.out (by rw [e1]; decide) HN.out, e1])
                  go_wp2_with fail
                  refine end_tmp_cell rfl rfl (HK2.out.set2 _ _) Tryd.underlying25 rfl (by kernel_rfl) rfl ⟨0, by rw [HE.out]; rfl, (HB2.out.setCell (by simp) _).setCell (by simp) _⟩
                · have HN2 : Hid (∀ j, j < k + 1 → gBadAt gs j = 0) := Lib.hid fun j hj => by
                    rcases Nat.lt_or_ge j k with h | h
                    · exact HN.out j h
                    · obtain rfl : j = k := by omega
                      have e1 := gBad_ok (pre := gs.take j) (g := ⟨gn, gz, gi⟩) Hnm.out Hbh.out Hr.out (by simp only; rw [Hil.out]; exact hil) (by simp only; rw [← Hz.out]; exact hmu)
                      unfold gBadAt
                      rw [Hg.out]
                      exact e1
                  have Hz2 : Hid (z + gz = sumG (gs.take (k + 1))) := Lib.hid (by rw [sumG_snoc gs k _ Hg.out, ← Hz.out])
                  go_wp2_with fail
                  go_roundw
                  case rel => exact ⟨k + 1, z + gz, by omega, by go_num, rfl, Hz2, by omega, by omega, HN2, HK2, HB2⟩
                  case measure => simp [intOf]; omega
            · have HE : Hid (globF gs = (3, (k : Int))) := Lib.hid (by
                have e1 := gBad_range (pre := gs.take k) (g := ⟨gn, gz, gi⟩) Hnm.out Hbh.out hr
                rw [globF_hit (by rw [HL.out]; exact hl10) Hg.out (by rw [e1]; decide) HN.out, e1])
              have hwi := Within_any gz 1 200 w2
              rw [show decide (1 ≤ gz ∧ gz ≤ 200) = false by rw [decide_eq_false_iff_not]; exact hr] at hwi
              have HWi := Lib.hid hwi
              clear hwi hr
              go_wp2_with fail
              refine HWi.out.mono ?_
              rintro e w' ⟨rfl, rfl⟩
              go_wp2_with fail
              refine end_tmp_cell rfl rfl (HK2.out.set2 _ _) Tryd.underlying25 rfl (by kernel_rfl) rfl ⟨0, by rw [HE.out]; rfl, (HB2.out.setCell (by simp) _).setCell (by simp) _⟩
          · have HE : Hid (globF gs = (7, (k : Int))) := Lib.hid (by
              have e1 := gBad_had (pre := gs.take k) (g := ⟨gn, gz, gi⟩) Hnm.out Hbh.out
              rw [globF_hit (by rw [HL.out]; exact hl10) Hg.out (by rw [e1]; decide) HN.out, e1])
            go_wp2_with fail
            refine end_tmp_cell rfl rfl (HK2.out.set2 _ _) Tryd.underlying25 rfl (by kernel_rfl) rfl ⟨0, by rw [HE.out]; rfl, (HB2.out.setCell (by simp) _).setCell (by simp) _⟩
      · have HE := Lib.hid (globF_ok (gs := gs) (by rw [HL.out]; exact hl10) fun j hj => HN.out j (by have := HL.out; omega))
        have q0 := HK.out.cell 0
        have q1 := HK.out.cell 1
        have k0 := HK.out.frozen 0
        have k1 := HK.out.frozen 1
        go_wp2_with fail
        exact end_tmp_cell rfl rfl (HK.out.set2 _ _) Tryd.underlying25 rfl (by kernel_rfl) rfl ⟨_, by rw [HE.out]; rfl, (HB.out.setCell (by simp) _).setCell (by simp) _⟩
end Go.Proofs.YtliampeaecgagaaDoor
