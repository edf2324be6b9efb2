/-
  Contract of the reference's GlobalsFault.
  Conditions: the slice reads as globals.
-/
import Derived.Test.YtliampeaecgagaaDoorMcC
import Derived.Deep.QuietTactic
import Derived.BigQuiet
namespace Go.Proofs.YtliampeaecgagaaDoor
open Go.RowKit

theorem had_no {gs : List Glob} {k : Nat} {gn : ByteArray} (h : ∀ (j : Nat) (g : Glob), j < k → gs[j]? = some g → (g.name.toList == gn.toList) = false) : ((gs.take k).any fun g => g.name.toList == gn.toList) = false := by
  rw [List.any_eq_false]
  intro g hg
  obtain ⟨j, hj⟩ := List.mem_iff_getElem?.1 hg
  rw [List.getElem?_take] at hj
  split at hj
  · rename_i hlt
    rw [h j g hlt hj]
    simp
  · cases hj
theorem had_yes {gs : List Glob} {k j : Nat} {gn : ByteArray} {g : Glob} (hj : j < k) (hg : gs[j]? = some g) (h : (g.name.toList == gn.toList) = true) : ((gs.take k).any fun g => g.name.toList == gn.toList) = true := by
  rw [List.any_eq_true]
  refine ⟨g, List.mem_of_getElem? (i := j) ?_, h⟩
  rw [List.getElem?_take, if_pos hj]
  exact hg
set_option maxRecDepth 100000 in
set_option maxHeartbeats 2000000 in
theorem GlobalsFault_any (v : Value) (gs : List Glob) (w : World) (hv : GlobsAt w w.heap.size v gs) (hsz : ∀ g ∈ gs, g.name.size ≤ 9223372036854775807 ∧ I64 g.size) :
    Calls Tryd.prog 49 #[v] w fun e w' => e = .returned (.agg #[.int .i64 (globF gs).1, .int .i64 (globF gs).2]) ∧ Below w.heap.size w w' := by
  have HV := Lib.hid hv
  have HSz := Lib.hid hsz
  obtain ⟨A, c, hvv, hlc, h63, _⟩ := hv
  subst hvv
  obtain ⟨len, hlen⟩ : ∃ len, gs.length = len := ⟨_, rfl⟩
  have HL := Lib.hid hlen
  rw [hlen] at hlc HV ⊢
  clear hlen hsz
  by_cases hbig : 10 < len
  · have HE : Hid (globF gs = (2, 0)) := Lib.hid (by unfold globF; rw [if_pos (by rw [HL.out]; exact hbig)])
    go_enter Tryd.func49, Tryd.ntmps49
    go_wp2_with fail
    exact end_cell rfl rfl (Blk.new _ _ _) Tryd.underlying25 rfl (by kernel_rfl) rfl ⟨by rw [HE.out], (Below.refl _ _).alloc (Nat.le_refl _) _⟩
  · have HBig := Lib.hid hbig
    have hl10 : len ≤ 10 := by omega
    have HW0 : Hid (Below w.heap.size w (w.alloc (.cells #[.int .i64 0, .int .i64 0] 25))) := Lib.hid ((Below.refl _ _).alloc (Nat.le_refl _) _)
    have HK0 : Hid (Blk (w.alloc (.cells #[.int .i64 0, .int .i64 0] 25)) w.heap.size 25 #[.int .i64 0, .int .i64 0]) := Lib.hid (Blk.new w _ _)
    clear hbig
    go_enter Tryd.func49, Tryd.ntmps49
    go_wp2_with fail
    generalize w.alloc (.cells #[.int .i64 0, .int .i64 0] 25) = W at *
    go_loopw [3, 4] (fun n i wr => ∃ (k : Nat) (z : Int), k ≤ len ∧ i = .int .i64 k ∧ n = .int .i64 z ∧ Hid (z = sumG (gs.take k)) ∧ 0 ≤ z ∧ z ≤ 200 ∧ Hid (∀ j, j < k → gBadAt gs j = 0) ∧ Hid (Blk wr w.heap.size 25 #[.int .i64 0, .int .i64 0]) ∧ Hid (Below w.heap.size w wr)) (fun _ i _ => len - (intOf i).toNat)
    case atStart => exact ⟨0, 0, Nat.zero_le _, rfl, rfl, Lib.hid rfl, by omega, by omega, Lib.hid (fun j h => absurd h (Nat.not_lt_zero j)), HK0, HW0⟩
    case round =>
      obtain ⟨k, z, hk, rfl, rfl, Hz, hz0, hz1, HN, HK, HB⟩ := hrel
      clear HW0 HK0
      have hzw : w.heap.size < wr.heap.size := HK.out.lt
      have q0 := HK.out.cell 0
      have q1 := HK.out.cell 1
      have k0 := HK.out.frozen 0
      have k1 := HK.out.frozen 1
      by_cases hlt : k < len
      · obtain ⟨A', c', e, _, _, h3⟩ := HV.out
        obtain ⟨b, off, hA, hbw, hcell⟩ := h3 (by rw [HL.out]; omega)
        obtain rfl : A' = A := ((Value.slice.inj e).1).symm
        clear e
        subst hA
        obtain ⟨⟨gn, gz, gi⟩, hg⟩ : ∃ g, gs[k]? = some g := ⟨gs[k]'(by rw [HL.out]; exact hlt), List.getElem?_eq_getElem _⟩
        have HCell := Lib.hid (fun (j : Nat) (g : Glob) (h : gs[j]? = some g) => (bcell HB.out hbw (o := off + j * 3)).trans (by obtain ⟨_, c0, _⟩ := hcell j g h; exact c0) : ∀ (j : Nat) (g : Glob), gs[j]? = some g → wr.cell? ⟨b, off + j * 3, none⟩ = some (.string g.name))
        obtain ⟨iv, c0, c1, c2, hiv⟩ := hcell k _ hg
        have c0 := (bcell HB.out hbw).trans c0
        have c1 := (bcell HB.out hbw).trans c1
        have c2 := (bcell HB.out hbw).trans c2
        obtain ⟨Ai, ci, hivv, hic, hi63, _⟩ := hiv
        subst hivv
        obtain ⟨il, hil⟩ : ∃ il, gi.length = il := ⟨_, rfl⟩
        have Hil := Lib.hid hil
        simp only at c0 c1 c2 hic
        rw [hil] at c2 hic
        have Hg := Lib.hid hg
        obtain ⟨hns, hgi⟩ := HSz.out _ (List.mem_of_getElem? hg)
        have hns' : gn.size ≤ 9223372036854775807 := hns
        have hgz0 : -9223372036854775808 ≤ gz := hgi.1
        have hgz1 : gz ≤ 9223372036854775807 := hgi.2
        clear hcell h3 hg hil hns hgi
        go_wp2_with fail
        refine (GoodName_any gn _ hns').mono ?_
        rintro e w' ⟨rfl, rfl⟩
        cases hnm : nameS gn
        · have HE : Hid (globF gs = (12, (k : Int))) := Lib.hid (by
            have e1 := gBad_name (pre := gs.take k) (g := ⟨gn, gz, gi⟩) hnm
            rw [globF_hit (by rw [HL.out]; exact hl10) Hg.out (by rw [e1]; decide) HN.out, e1])
          clear hnm
          go_wp2_with fail
          exact end_cell rfl rfl (HK.out.set2 _ _) Tryd.underlying25 rfl (by kernel_rfl) rfl ⟨by rw [HE.out], (HB.out.setCell (by simp) _).setCell (by simp) _⟩
        · have Hnm := Lib.hid hnm
          clear hnm
          go_wp2_with fail
          obtain ⟨wo, hwo⟩ : ∃ wo : World, wo = wr := ⟨_, rfl⟩
          subst hwo
          go_loopw [5] (fun q wx => ∃ (j n : Nat), j ≤ k ∧ q = .int .i64 j ∧ Hid (∀ (i : Nat) (g : Glob), i < j → gs[i]? = some g → (g.name.toList == gn.toList) = false) ∧ wx = wo.drewN n) (fun q _ => k - (intOf q).toNat)
          case atStart => exact ⟨0, 0, Nat.zero_le _, rfl, Lib.hid (fun i _ h => absurd h (Nat.not_lt_zero i)), rfl⟩
          case round =>
            obtain ⟨j, n, hj, rfl, HF, rfl⟩ := hrel
            by_cases hjk : j < k
            · obtain ⟨⟨hn, hz, hi⟩, hh⟩ : ∃ g, gs[j]? = some g := ⟨gs[j]'(by rw [HL.out]; omega), List.getElem?_eq_getElem _⟩
              have d0 := HCell.out j _ hh
              have Hh := Lib.hid hh
              simp only at d0
              have hj0 : (0 : Int) ≤ (j : Int) := Int.natCast_nonneg j
              have hj1 : (j : Int) < (len : Int) := by omega
              have hk0 : (0 : Int) ≤ (k : Int) := Int.natCast_nonneg k
              have hk1 : (k : Int) < (len : Int) := by omega
              clear hh
              cases heq : (hn.toList == gn.toList)
              · have Heq := Lib.hid heq
                go_wp2_with fail
                go_quiet (fail)
                go_wp2_with fail
                go_roundw
                case rel =>
                  refine ⟨j + 1, _, by omega, by go_num, Lib.hid fun i g hi' hg' => ?_, rfl⟩
                  rcases Nat.lt_or_ge i j with h | h
                  · exact HF.out i g h hg'
                  · obtain rfl : i = j := by omega
                    rw [Hh.out] at hg'
                    cases hg'
                    exact Heq.out
                case measure => simp [intOf]; omega
              · have HE : Hid (globF gs = (7, (k : Int))) := Lib.hid (by
                  have e1 := gBad_had (pre := gs.take k) (g := ⟨gn, gz, gi⟩) Hnm.out (had_yes hjk Hh.out heq)
                  rw [globF_hit (by rw [HL.out]; exact hl10) Hg.out (by rw [e1]; decide) HN.out, e1])
                go_wp2_with fail
                go_quiet (fail)
                go_wp2_with fail
                exact end_cell rfl rfl ((show Blk (wo.drewN _) _ _ _ from HK.out).set2 _ _) Tryd.underlying25 rfl (by kernel_rfl) rfl ⟨by rw [HE.out], ((below_drewN HB.out _).setCell (by simp) _).setCell (by simp) _⟩
            · obtain rfl : j = k := by omega
              have Hbh := Lib.hid (had_no HF.out)
              have hk0 : (0 : Int) ≤ (j : Int) := Int.natCast_nonneg j
              have hk1 : (j : Int) < (len : Int) := by omega
              by_cases hr : 1 ≤ gz ∧ gz ≤ 200
              · have Hr := Lib.hid hr
                obtain ⟨hr1, hr2⟩ := hr
                by_cases hil : gz < (il : Int)
                · have HE : Hid (globF gs = (9, (j : Int))) := Lib.hid (by
                    have e1 := gBad_size (pre := gs.take j) (g := ⟨gn, gz, gi⟩) Hnm.out Hbh.out Hr.out (by simp only; rw [Hil.out]; exact hil)
                    rw [globF_hit (by rw [HL.out]; exact hl10) Hg.out (by rw [e1]; decide) HN.out, e1])
                  go_wp2_with fail
                  go_quiet (fail)
                  go_wp2_with fail
                  exact end_cell rfl rfl ((show Blk (wo.drewN _) _ _ _ from HK.out).set2 _ _) Tryd.underlying25 rfl (by kernel_rfl) rfl ⟨by rw [HE.out], ((below_drewN HB.out _).setCell (by simp) _).setCell (by simp) _⟩
                · by_cases hmu : 200 < z + gz
                  · have HE : Hid (globF gs = (10, (j : Int))) := Lib.hid (by
                      have e1 := gBad_much (pre := gs.take j) (g := ⟨gn, gz, gi⟩) Hnm.out Hbh.out Hr.out (by simp only; rw [Hil.out]; exact hil) (by simp only; rw [← Hz.out]; exact hmu)
                      rw [globF_hit (by rw [HL.out]; exact hl10) Hg.out (by rw [e1]; decide) HN.out, e1])
                    go_wp2_with fail
                    go_quiet (fail)
                    go_wp2_with fail
                    exact end_cell rfl rfl ((show Blk (wo.drewN _) _ _ _ from HK.out).set2 _ _) Tryd.underlying25 rfl (by kernel_rfl) rfl ⟨by rw [HE.out], ((below_drewN HB.out _).setCell (by simp) _).setCell (by simp) _⟩
                  · have HN2 : Hid (∀ i, i < j + 1 → gBadAt gs i = 0) := Lib.hid fun i hi => by
                      rcases Nat.lt_or_ge i j with h | h
                      · exact HN.out i h
                      · obtain rfl : i = j := by omega
                        have e1 := gBad_ok (pre := gs.take i) (g := ⟨gn, gz, gi⟩) Hnm.out Hbh.out Hr.out (by simp only; rw [Hil.out]; exact hil) (by simp only; rw [← Hz.out]; exact hmu)
                        unfold gBadAt
                        rw [Hg.out]
                        exact e1
                    have Hz2 : Hid (z + gz = sumG (gs.take (j + 1))) := Lib.hid (by rw [sumG_snoc gs j _ Hg.out, ← Hz.out])
                    go_wp2_with fail
                    go_quiet (fail)
                    go_wp2_with fail
                    go_roundw
                    case rel => exact ⟨j + 1, z + gz, by omega, by go_num, rfl, Hz2, by omega, by omega, HN2, Lib.hid (show Blk (wo.drewN _) _ _ _ from HK.out), Lib.hid (below_drewN HB.out _)⟩
                    case measure => simp [intOf]; omega
              · have HE : Hid (globF gs = (3, (j : Int))) := Lib.hid (by
                  have e1 := gBad_range (pre := gs.take j) (g := ⟨gn, gz, gi⟩) Hnm.out Hbh.out hr
                  rw [globF_hit (by rw [HL.out]; exact hl10) Hg.out (by rw [e1]; decide) HN.out, e1])
                rcases (by omega : gz < 1 ∨ (1 ≤ gz ∧ 200 < gz)) with hr1 | ⟨hr1, hr2⟩
                all_goals
                  clear hr
                  go_wp2_with fail
                  exact end_cell rfl rfl ((show Blk (wo.drewN _) _ _ _ from HK.out).set2 _ _) Tryd.underlying25 rfl (by kernel_rfl) rfl ⟨by rw [HE.out], ((below_drewN HB.out _).setCell (by simp) _).setCell (by simp) _⟩
      · have HE := Lib.hid (globF_ok (gs := gs) (by rw [HL.out]; exact hl10) fun j hj => HN.out j (by have := HL.out; omega))
        go_wp2_with fail
        exact end_cell rfl rfl (HK.out.set2 _ _) Tryd.underlying25 rfl (by kernel_rfl) rfl ⟨by rw [HE.out], (HB.out.setCell (by simp) _).setCell (by simp) _⟩
end Go.Proofs.YtliampeaecgagaaDoor
