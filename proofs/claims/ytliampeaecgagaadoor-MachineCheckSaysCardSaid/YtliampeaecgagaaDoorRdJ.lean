/-
  Contracts of the reference's BytesRead and SameMacs.
  Conditions: the bytes are bytes; the slices read as instructions.
-/
import Derived.Test.YtliampeaecgagaaDoorRdI
import Derived.Test.YtliampeaecgagaaDoorRdF
import Derived.Deep.QuietTactic
import Derived.BigQuiet
namespace Go.Proofs.YtliampeaecgagaaDoor
open Go.RowKit

theorem suffix_drop {bs a l' : List Int} {p : Nat} (h : bs.drop p = a ++ l') (hp : p ≤ bs.length) : l' = bs.drop (bs.length - l'.length) ∧ l'.length ≤ bs.length := by
  have e1 := congrArg List.length h
  simp only [List.length_drop, List.length_append] at e1
  refine ⟨?_, by omega⟩
  have e2 : l' = (bs.drop p).drop a.length := by rw [h, List.drop_left]
  refine e2.trans ?_
  rw [List.drop_drop]
  congr 1
  omega
/-- The loop that reads from a place on. -/
def bytesRel (bs : List Int) (w : World) (gk : Nat) (lv pv : Value) (wr : World) : Prop :=
  ∃ (ms : List Mac) (p : Nat) (z : Int), pv = .int .i64 z ∧ Hid (z = p) ∧ p ≤ bs.length ∧ bs.length - p ≤ gk ∧ Hid (decS bs.length bs = preE ms (decS gk (bs.drop p))) ∧ Hid (OwnMacs wr (w.heap.size + 1) lv ms) ∧
    Hid (Blk wr w.heap.size 25 #[.int .i64 0, .int .i64 0]) ∧ Hid (Below w.heap.size w wr) ∧ Hid (ms.length ≤ p)

set_option maxRecDepth 100000 in
set_option maxHeartbeats 2000000 in
theorem BytesRead_any (v : Value) (bs : List Int) (w : World) (hv : BAt w w.heap.size v bs) (hbs : BytesOk bs) :
    Calls Tryd.prog 18 #[v] w (MacsPost w (readL bs).1 (readL bs).2) := by
  have HV := Lib.hid hv
  have HBs := Lib.hid hbs
  obtain ⟨A, c, hvv, hlc, h63, _⟩ := hv
  subst hvv
  obtain ⟨len, hlen⟩ : ∃ len, bs.length = len := ⟨_, rfl⟩
  have HL := Lib.hid hlen
  rw [hlen] at hlc HV ⊢
  clear hlen hbs
  by_cases hbig : 70000 < len
  · have HE : Hid (readL bs = ((2, 0), [])) := Lib.hid (by unfold readL; rw [if_pos (by rw [HL.out]; exact hbig)])
    go_enter Tryd.func18, Tryd.ntmps18
    go_wp2_with fail
    refine end_tmp_cell rfl rfl (Blk.new _ _ _) Tryd.underlying25 rfl (by kernel_rfl) rfl ⟨_, by rw [HE.out], ?_, (Below.refl _ _).alloc (Nat.le_refl _) _⟩
    rw [HE.out]
    exact OwnMacs.nil _ _
  · have HBig := Lib.hid hbig
    have HW0 : Hid (Below w.heap.size w (w.alloc (.cells #[.int .i64 0, .int .i64 0] 25))) := Lib.hid ((Below.refl _ _).alloc (Nat.le_refl _) _)
    have HK0 : Hid (Blk (w.alloc (.cells #[.int .i64 0, .int .i64 0] 25)) w.heap.size 25 #[.int .i64 0, .int .i64 0]) := Lib.hid (Blk.new w _ _)
    go_enter Tryd.func18, Tryd.ntmps18
    go_wp2_with fail
    generalize w.alloc (.cells #[.int .i64 0, .int .i64 0] 25) = W at *
    go_loopg [4, 5] len (bytesRel bs w)
    case atStart => exact ⟨[], 0, 0, rfl, Lib.hid rfl, by omega, by rw [HL.out]; omega, Lib.hid (by rw [preE_nil, HL.out, List.drop_zero]), Lib.hid (OwnMacs.nil _ _), HK0, HW0, Lib.hid (by simp)⟩
    case round =>
      obtain ⟨ms, p, z, rfl, Hz, hp, hk, HD, HO, HK, HB, HLe⟩ := hrel
      clear HW0 HK0
      rw [HL.out] at hp hk
      have hzw : w.heap.size < wr.heap.size := HK.out.lt
      by_cases hpl : p < len
      · obtain ⟨b', off', op, hA, hx, _, hdr⟩ := bat_cell HV.out HL.out hpl
        have Hdr := Lib.hid hdr
        have hzl : z < len := by have := Hz.out; omega
        obtain ⟨j, rfl⟩ : ∃ j, gk = j + 1 := ⟨gk - 1, by omega⟩
        clear hx hdr hA
        go_wp2_with fail
        refine (ReadMac_any _ bs p z _ Hz.out ((HV.out.below HB.out (Nat.le_refl _)).more HB.out.size) HBs.out (by rw [HL.out]; exact hpl)).mono ?_
        rintro e w1 ⟨⟨mo, md, ma, mb, mn⟩, next, he, hb1, hm1⟩
        have he' : e = .returned (.tuple #[.agg #[.int .i64 mo, .int .i64 md, .int .i64 ma, .int .i64 mb, .int .i64 mn], .int .i64 next]) := he
        subst he'
        clear he
        have hz1 : wr.heap.size ≤ w1.heap.size := hb1.size
        have HO1 := Lib.hid (HO.out.below hb1 rfl)
        have HB1 := Lib.hid ((HB.out.trans (hb1.mono (by omega))).alloc (by omega) (.cells #[.int .i64 mo, .int .i64 md, .int .i64 ma, .int .i64 mb, .int .i64 mn] 36))
        have hk1 := (HK.out.below hb1 HK.out.lt).alloc (.cells #[.int .i64 mo, .int .i64 md, .int .i64 ma, .int .i64 mb, .int .i64 mn] 36)
        have HKw := Lib.hid hk1
        have hkm := Blk.new w1 36 #[.int .i64 mo, .int .i64 md, .int .i64 ma, .int .i64 mb, .int .i64 mn]
        have c0 := hkm.cell 0
        have c1' := hkm.cell 1
        have c2 := hkm.cell 2
        have c3 := hkm.cell 3
        have c4 := hkm.cell 4
        have k0 := hk1.cell 0
        have k1 := hk1.cell 1
        have g0 := hk1.frozen 0
        have g1 := hk1.frozen 1
        clear hb1 hk1 hkm
        cases hrd : readS (bs.drop p) with
        | none =>
          have hnx : next = -1 := by unfold RmEnd at hm1; rw [hrd] at hm1; exact hm1
          have HE : Hid (readL bs = ((1, z), [])) := Lib.hid (by
            unfold readL
            rw [if_neg (by rw [HL.out]; exact HBig.out), HD.out, decS_none _ _ (by rw [Hdr.out]; simp) hrd]
            simp only [preE, List.length_drop]
            rw [HL.out, Hz.out, show (len : Int) - ((len - p : Nat) : Int) = p by omega])
          subst hnx
          clear hm1 hrd
          go_wp2_with fail
          refine end_tmp_cell rfl rfl (HKw.out.set2 _ _) Tryd.underlying25 rfl (by kernel_rfl) rfl ⟨_, by rw [HE.out], ?_, (HB1.out.setCell (by simp) _).setCell (by simp) _⟩
          rw [HE.out]
          exact OwnMacs.nil _ _
        | some q =>
          obtain ⟨m', l'⟩ := q
          have hm2 : (⟨mo, md, ma, mb, mn⟩ : Mac) = m' ∧ next = (bs.length : Int) - l'.length := by unfold RmEnd at hm1; rw [hrd] at hm1; exact hm1
          obtain ⟨rfl, hnx⟩ := hm2
          have hbo : BytesOk (bs.drop p) := fun y hy => HBs.out y (List.mem_of_mem_drop hy)
          have hrl := readS_len hbo hrd
          have hsuf := suffix_drop (read_back _ _ _ hbo hrd).1 (by rw [HL.out]; exact hp)
          have hq : bs.length - l'.length ≤ len := by have := HL.out; omega
          have hql : p < bs.length - l'.length := by have := hrl.1; rw [List.length_drop] at this; have := HL.out; omega
          obtain ⟨q, hqq⟩ : ∃ q, bs.length - l'.length = q := ⟨_, rfl⟩
          rw [hqq] at hq hql hsuf
          have hnq : next = (q : Int) := by have := hsuf.2; omega
          have Hnq := Lib.hid hnq
          have hn0 : 0 ≤ next := by omega
          have HD1 : Hid (decS bs.length bs = preE (ms ++ [⟨mo, md, ma, mb, mn⟩]) (decS j (bs.drop q))) := Lib.hid (by rw [HD.out, decS_some j _ _ _ (by rw [Hdr.out]; simp) hrd, preE_pre, hsuf.1])
          clear hm1 hrd hnx hrl hsuf hqq hnq hbo
          go_wp2_with (at_builtin; refine app_one rfl _ _ 23 36 rfl (.agg #[.int .i64 0, .int .i64 0, .int .i64 0, .int .i64 0, .int .i64 0]) 5 40 Tryd.underlying23 infoMac rfl (by decide) (by decide) (w.heap.size + 1) u4 _ _ rfl (HO1.out.alloc _) _ [.int .i64 mo, .int .i64 md, .int .i64 ma, .int .i64 mb, .int .i64 mn] rfl rfl (cells_one ⟨mo, md, ma, mb, mn⟩) (by simp) (by have := HLe.out; omega) (by simp; omega) ?_; intro v4 w4 HA4)
          go_roundg j
          case measure => omega
          case rel =>
            refine ⟨ms ++ [⟨mo, md, ma, mb, mn⟩], q, next, rfl, Hnq, by rw [HL.out]; exact hq, by rw [HL.out]; omega, HD1, Lib.hid (OwnMacs.snoc (m := ⟨mo, md, ma, mb, mn⟩) HA4.out.own), Lib.hid (HA4.out.blk (HO1.out.alloc _) HKw.out (by decide)), Lib.hid (HB1.out.trans (HA4.out.below.mono (by omega))), Lib.hid ?_⟩
            have := HLe.out
            simp only [List.length_append, List.length_cons, List.length_nil]
            omega
      · have hnil : bs.drop p = [] := List.drop_eq_nil_of_le (by rw [HL.out]; omega)
        have HE : Hid (readL bs = if (checkS ms).1 = 0 then ((0, 0), ms) else (checkS ms, [])) := Lib.hid (by
          unfold readL
          rw [if_neg (by rw [HL.out]; exact HBig.out), HD.out, hnil, decS_nil]
          simp [preE])
        have hzl : (len : Int) ≤ z := by have := Hz.out; omega
        clear hnil
        go_wp2_with fail
        refine (MacCheck_any _ ms _ HO.out.macs).mono ?_
        rintro e w1 ⟨rfl, hb1⟩
        have hz1 : wr.heap.size ≤ w1.heap.size := hb1.size
        have HB1 := Lib.hid ((HB.out.trans (hb1.mono (by omega))).alloc (by omega) (.cells #[.int .i64 (checkS ms).1, .int .i64 (checkS ms).2] 25))
        have hk1 := (HK.out.below hb1 HK.out.lt).alloc (.cells #[.int .i64 (checkS ms).1, .int .i64 (checkS ms).2] 25)
        have HO1 := Lib.hid ((HO.out.below hb1 rfl).alloc (.cells #[.int .i64 (checkS ms).1, .int .i64 (checkS ms).2] 25))
        have hkn := Blk.new w1 25 #[.int .i64 (checkS ms).1, .int .i64 (checkS ms).2]
        have q0 := hkn.cell 0
        have q1 := hkn.cell 1
        have k0 := hk1.cell 0
        have k1 := hk1.cell 1
        have g0 := hk1.frozen 0
        have g1 := hk1.frozen 1
        have HK1 := Lib.hid hk1
        clear hb1 hk1 hkn
        by_cases hf : (checkS ms).1 = 0
        · have hf0 : ((checkS ms).1 != 0) = false := by simp [hf]
          rw [if_pos hf] at HE
          clear hf
          go_wp2_with fail
          refine end_tmp_cell rfl rfl (HK1.out.set2 _ _) Tryd.underlying25 rfl (by kernel_rfl) rfl ⟨_, by rw [HE.out], ?_, (HB1.out.setCell (by simp) _).setCell (by simp) _⟩
          rw [HE.out]
          exact OwnMacs.more (OwnMacs.set (o := 1) (OwnMacs.set (o := 0) HO1.out (by omega) _) (by omega) _) (by omega)
        · have hf0 : ((checkS ms).1 != 0) = true := by simp [hf]
          rw [if_neg hf] at HE
          clear hf
          go_wp2_with fail
          go_region
          all_goals
            go_wp2_with fail
            refine end_tmp_cell rfl rfl (HK1.out.set2 _ _) Tryd.underlying25 rfl (by kernel_rfl) rfl ⟨_, by rw [HE.out], ?_, below_drew ((HB1.out.setCell (by simp) _).setCell (by simp) _)⟩
            rw [HE.out]
            exact OwnMacs.nil _ _
end Go.Proofs.YtliampeaecgagaaDoor
