/-
  Texts of the claim AsmWholeSays (RdF RdH RdJ): what each proves stands at its theorems.
  Conditions: as the theorems say.
-/
import Derived.Deep.QuietTactic
import Derived.BigQuiet
import Derived.Test.YtdldochhondifaaGreatDoorVRdK
import Derived.Test.YtdldochhondifaaGreatDoorVKtC
namespace Go.Proofs.YtdldochhondifaaGreatDoor
open Go.RowKit

/-- What a function that tells instructions comes to. -/
def MacsPost (w : World) (f : Int × Int) (ms : List Mac) (e : Ending) (w' : World) : Prop :=
  ∃ v, e = .returned (.tuple #[v, .agg #[.int .i64 f.1, .int .i64 f.2]]) ∧ OwnMacs w' w.heap.size v ms ∧ Below w.heap.size w w'
theorem MacsAt.set {w : World} {B : Nat} {v : Value} {ms : List Mac} (h : MacsAt w B v ms) {p : Addr} (hp : B ≤ p.block) (u : Value) : MacsAt (w.setCell p u) B v ms :=
  h.below ((Below.refl B w).setCell hp u) (Nat.le_refl _)
theorem OwnMacs.set {w : World} {base : Nat} {v : Value} {ms : List Mac} (h : OwnMacs w base v ms) {b o : Nat} (hb : b < base) (u : Value) : OwnMacs (w.setCell ⟨b, o, none⟩ u) base v ms :=
  ownsRow_setCell_below (a := ⟨b, o, none⟩) h hb u
theorem OwnMacs.only {w w' : World} {base g : Nat} {v : Value} {ms : List Mac} (h : OwnMacs w base v ms) (hg : w.grownBy w' (some g)) (hb : g < base) : OwnMacs w' base v ms := by
  refine World.ownsRow.kept h hg ?_
  cases hv : v.ownBlock with
  | none => exact .inl rfl
  | some k => exact .inr fun e => by cases e; have := own_block_ge h _ hv; omega
theorem OwnMacs.more {w : World} {base base' : Nat} {v : Value} {ms : List Mac} (h : OwnMacs w base v ms) (hb : base' ≤ base) : OwnMacs w base' v ms := by
  obtain ⟨h1, h2⟩ := h
  refine ⟨h1, ?_⟩
  rcases h2 with h2 | ⟨g, cap, cur, e, hg, h3⟩
  · exact .inl h2
  · exact .inr ⟨g, cap, cur, e, by omega, h3⟩
theorem readS_len {l l' : List Int} {m : Mac} (hb : BytesOk l) (h : readS l = some (m, l')) : l'.length < l.length ∧ BytesOk l' := by
  obtain ⟨e, _⟩ := read_back l m l' hb h
  have := codeS_pos m
  subst e
  refine ⟨by simp; omega, fun x hx => hb x (by simp [hx])⟩
/-- The loop that reads: ms are read, left is left, in at most gk rounds. -/
def readRel (bs : List Int) (w : World) (g gr : Nat) (gk : Nat) (lv : Value) (wr : World) : Prop :=
  ∃ (ms : List Mac) (left : List Int), left.length ≤ gk ∧ Hid (decS bs.length bs = preE ms (decS gk left)) ∧ Hid (OwnMacs wr (g + 1) lv ms) ∧ Hid (RdAt wr g w.heap.size left false) ∧ Hid (BytesOk left) ∧
    Hid (Blk wr gr 24 #[.int .i64 0, .int .i64 0]) ∧ Hid (Below w.heap.size w wr) ∧ Hid (ms.length + left.length ≤ bs.length)

set_option maxRecDepth 100000 in
set_option maxHeartbeats 4000000 in
theorem Read_any (v : Value) (bs : List Int) (w : World) (hv : BAt w w.heap.size v bs) (hbs : BytesOk bs) (ht : Tab w) :
    Calls Tryz.prog 46 #[v] w (MacsPost w (readL bs).1 (readL bs).2) := by
  have HV := Lib.hid hv
  have HBs := Lib.hid hbs
  have HT := Lib.hid ht
  obtain ⟨A, c, hvv, hlc, h63, _⟩ := hv
  subst hvv
  obtain ⟨len, hlen⟩ : ∃ len, bs.length = len := ⟨_, rfl⟩
  have HL := Lib.hid hlen
  rw [hlen] at hlc HV ⊢
  have h0 := ht.1
  clear hlen hbs ht
  by_cases hbig : 70000 < len
  · have HE : Hid (readL bs = ((2, 0), [])) := Lib.hid (by unfold readL; rw [if_pos (by rw [HL.out]; exact hbig)])
    go_enter Tryz.func46, Tryz.ntmps46
    go_wp2_with fail
    refine end_tmp_cell rfl rfl (Blk.new _ _ _) Tryz.underlying24 rfl (by kernel_rfl) rfl ⟨_, by rw [HE.out], ?_, (Below.refl _ _).alloc (Nat.le_refl _) _⟩
    rw [HE.out]
    exact OwnMacs.nil _ _
  · have HBig := Lib.hid hbig
    have hA : Below w.heap.size w (w.alloc (.cells #[.int .i64 0, .int .i64 0] 24)) := (Below.refl _ _).alloc (Nat.le_refl _) _
    have HW0 : Hid (Below w.heap.size w ((w.alloc (.cells #[.int .i64 0, .int .i64 0] 24)).alloc (.cells #[.slice A len c, .bool false] 142))) := Lib.hid (hA.alloc (by simp) _)
    have HK0 : Hid (Blk ((w.alloc (.cells #[.int .i64 0, .int .i64 0] 24)).alloc (.cells #[.slice A len c, .bool false] 142)) w.heap.size 24 #[.int .i64 0, .int .i64 0]) := Lib.hid ((Blk.new w _ _).alloc _)
    have HR0 : Hid (RdAt ((w.alloc (.cells #[.int .i64 0, .int .i64 0] 24)).alloc (.cells #[.slice A len c, .bool false] 142)) (w.heap.size + 1) w.heap.size bs false) := Lib.hid ⟨_, by have := Blk.new (w.alloc (.cells #[.int .i64 0, .int .i64 0] 24)) 142 #[.slice A len c, .bool false]; simpa using this, HV.out.below HW0.out (Nat.le_refl _)⟩
    have hs0 : ((w.alloc (.cells #[.int .i64 0, .int .i64 0] 24)).alloc (.cells #[.slice A len c, .bool false] 142)).heap.size = w.heap.size + 2 := by simp
    clear hA
    go_enter Tryz.func46, Tryz.ntmps46
    go_wp2_with fail
    generalize (w.alloc (.cells #[.int .i64 0, .int .i64 0] 24)).alloc (.cells #[.slice A len c, .bool false] 142) = W at *
    go_loopg [4] len (readRel bs w (w.heap.size + 1) w.heap.size)
    case atStart => exact ⟨[], bs, by rw [HL.out]; exact Nat.le_refl _, Lib.hid (by rw [preE_nil, HL.out]), Lib.hid (OwnMacs.nil _ _), HR0, HBs, HK0, HW0, Lib.hid (by simp)⟩
    case round =>
      obtain ⟨ms, left, hk, HD, HO, HR, HBy, HK, HB, HLe⟩ := hrel
      clear HW0 HK0 HR0 hs0
      have hzw : w.heap.size + 1 < wr.heap.size := by obtain ⟨_, hb, _⟩ := HR.out; exact hb.lt
      cases left with
      | nil =>
        have HE : Hid (readL bs = if (checkS ms).1 = 0 then ((0, 0), ms) else (checkS ms, [])) := Lib.hid (by
          unfold readL
          rw [if_neg (by rw [HL.out]; exact HBig.out), HD.out, decS_nil]
          simp [preE])
        obtain ⟨vr, hblk, A1, c1, hv1, _, _, _⟩ := HR.out
        subst hv1
        have r0 := hblk.cell 0
        have f0 := hblk.frozen 0
        clear hblk
        simp only [List.length_nil] at r0
        go_wp2_with fail
        refine (Check_any _ ms _ HO.out.macs (HT.out.own HB.out)).mono ?_
        rintro e w1 ⟨rfl, hb1⟩
        have hz1 : wr.heap.size ≤ w1.heap.size := hb1.size
        have HB1 := Lib.hid ((HB.out.trans (hb1.mono (by omega))).alloc (by omega) (.cells #[.int .i64 (checkS ms).1, .int .i64 (checkS ms).2] 24))
        have hk1 := (HK.out.below hb1 HK.out.lt).alloc (.cells #[.int .i64 (checkS ms).1, .int .i64 (checkS ms).2] 24)
        have HO1 := Lib.hid ((HO.out.below hb1 rfl).alloc (.cells #[.int .i64 (checkS ms).1, .int .i64 (checkS ms).2] 24))
        have hkn := Blk.new w1 24 #[.int .i64 (checkS ms).1, .int .i64 (checkS ms).2]
        have q0 := hkn.cell 0
        have q1 := hkn.cell 1
        have k0 := hk1.cell 0
        have k1 := hk1.cell 1
        have g0 := hk1.frozen 0
        have g1 := hk1.frozen 1
        have HK1 := Lib.hid hk1
        clear hb1 hk1 hkn r0 f0
        by_cases hf : (checkS ms).1 = 0
        · have hf0 : ((checkS ms).1 != 0) = false := by simp [hf]
          rw [if_pos hf] at HE
          clear hf
          go_wp2_with fail
          refine end_tmp_cell rfl rfl (HK1.out.set2 _ _) Tryz.underlying24 rfl (by kernel_rfl) rfl ⟨_, by rw [HE.out], ?_, (HB1.out.setCell (by simp) _).setCell (by simp) _⟩
          rw [HE.out]
          exact OwnMacs.more (OwnMacs.set (o := 1) (OwnMacs.set (o := 0) HO1.out (by omega) _) (by omega) _) (by omega)
        · have hf0 : ((checkS ms).1 != 0) = true := by simp [hf]
          rw [if_neg hf] at HE
          clear hf
          go_wp2_with fail
          go_region
          all_goals
            go_wp2_with fail
            refine end_tmp_cell rfl rfl (HK1.out.set2 _ _) Tryz.underlying24 rfl (by kernel_rfl) rfl ⟨_, by rw [HE.out], ?_, below_drew ((HB1.out.setCell (by simp) _).setCell (by simp) _)⟩
            rw [HE.out]
            exact OwnMacs.nil _ _
      | cons op l =>
        obtain ⟨j, rfl⟩ : ∃ j, gk = j + 1 := ⟨gk - 1, by simp at hk; omega⟩
        obtain ⟨vr, hblk, A1, c1, hv1, _, _, _⟩ := HR.out
        subst hv1
        have r0 := hblk.cell 0
        have f0 := hblk.frozen 0
        clear hblk
        obtain ⟨n1, hn1⟩ : ∃ n1, (op :: l).length = n1 := ⟨_, rfl⟩
        have hn0 : 0 < n1 := by rw [← hn1]; simp
        have hnl : n1 ≤ len := by have := HLe.out; have := HL.out; omega
        have HN1 := Lib.hid hn1
        rw [hn1] at r0 hk
        clear hn1
        go_wp2_with fail
        refine (mac_reads (w.heap.size + 1) w.heap.size op l _ HR.out (by omega) HBy.out (HT.out.own HB.out) (by omega)).mono ?_
        rintro e w1 ⟨⟨mo, md, ma, mb, mn⟩, rest, bad, he, hr1, hm1, hg1⟩
        have he' : e = .returned (.agg #[.int .i64 mo, .int .i64 md, .int .i64 ma, .int .i64 mb, .int .i64 mn]) := he
        subst he'
        clear he
        have hz1 : wr.heap.size ≤ w1.heap.size := hg1.size
        have HO1 := Lib.hid (HO.out.only hg1 (by omega))
        have HB1 := Lib.hid ((HB.out.trans ((only_below hg1 (by omega)).mono (by omega))).alloc (by omega) (.cells #[.int .i64 mo, .int .i64 md, .int .i64 ma, .int .i64 mb, .int .i64 mn] 39))
        have hk1 := (only_row hg1 HK.out (by omega)).alloc (.cells #[.int .i64 mo, .int .i64 md, .int .i64 ma, .int .i64 mb, .int .i64 mn] 39)
        have hr2 := hr1.alloc (by omega) (.cells #[.int .i64 mo, .int .i64 md, .int .i64 ma, .int .i64 mb, .int .i64 mn] 39)
        have HR2 := Lib.hid hr2
        have HM1 := Lib.hid hm1
        have HKw := Lib.hid hk1
        obtain ⟨vq, hblk, hvq⟩ := hr2
        have b1 := hblk.cell 1
        have hkm := Blk.new w1 39 #[.int .i64 mo, .int .i64 md, .int .i64 ma, .int .i64 mb, .int .i64 mn]
        have c0 := hkm.cell 0
        have c1' := hkm.cell 1
        have c2 := hkm.cell 2
        have c3 := hkm.cell 3
        have c4 := hkm.cell 4
        have k0 := hk1.cell 0
        have k1 := hk1.cell 1
        have g0 := hk1.frozen 0
        have g1 := hk1.frozen 1
        clear hg1 hr1 hm1 r0 f0 hk1 hblk hvq hkm
        cases hrd : readS (op :: l) with
        | none =>
          have hbad : bad = true := by have := HM1.out; unfold MacEnd at this; rw [hrd] at this; exact this
          have HE : Hid (readL bs = ((1, (len : Int) - (n1 : Int)), [])) := Lib.hid (by
            unfold readL
            rw [if_neg (by rw [HL.out]; exact HBig.out), HD.out, decS_none _ _ (by simp) hrd]
            simp only [preE]
            rw [HN1.out, HL.out])
          subst hbad
          clear hrd
          go_wp2_with fail
          refine end_tmp_cell rfl rfl (HKw.out.set2 _ _) Tryz.underlying24 rfl (by kernel_rfl) rfl ⟨_, by rw [HE.out], ?_, (HB1.out.setCell (by simp) _).setCell (by simp) _⟩
          rw [HE.out]
          exact OwnMacs.nil _ _
        | some p =>
          obtain ⟨m', l'⟩ := p
          have hm2 : (⟨mo, md, ma, mb, mn⟩ : Mac) = m' ∧ rest = l' ∧ bad = false := by have := HM1.out; unfold MacEnd at this; rw [hrd] at this; exact this
          obtain ⟨rfl, rfl, rfl⟩ := hm2
          have Hrd := Lib.hid hrd
          have hrl := readS_len HBy.out hrd
          clear hrd
          go_wp2_with (at_builtin; refine app_one rfl _ _ 22 39 rfl (.agg #[.int .i64 0, .int .i64 0, .int .i64 0, .int .i64 0, .int .i64 0]) 5 40 Tryz.underlying22 infoMac rfl (by decide) (by decide) (w.heap.size + 1 + 1) u4 _ _ rfl (HO1.out.alloc _) _ [.int .i64 mo, .int .i64 md, .int .i64 ma, .int .i64 mb, .int .i64 mn] rfl rfl (cells_one ⟨mo, md, ma, mb, mn⟩) (by simp) (by have := HLe.out; have := HL.out; omega) (by simp; omega) ?_; intro v4 w4 HA4)
          go_roundg j
          case measure => omega
          case rel =>
            refine ⟨ms ++ [⟨mo, md, ma, mb, mn⟩], rest, by have := HN1.out; have := hrl.1; omega, Lib.hid ?_, Lib.hid (OwnMacs.snoc (m := ⟨mo, md, ma, mb, mn⟩) HA4.out.own), Lib.hid ?_, Lib.hid hrl.2, Lib.hid (HA4.out.blk (HO1.out.alloc _) HKw.out (by decide)), Lib.hid (HB1.out.trans (HA4.out.below.mono (by omega))), Lib.hid ?_⟩
            · rw [HD.out, decS_some j _ _ _ (by simp) Hrd.out, preE_pre]
            · obtain ⟨v, hb, hv⟩ := HR2.out
              exact ⟨v, HA4.out.blk (HO1.out.alloc _) hb (by decide), hv.below HA4.out.below (by omega)⟩
            · have := HLe.out
              have := hrl.1
              simp only [List.length_append, List.length_cons, List.length_nil] at *
              omega
end Go.Proofs.YtdldochhondifaaGreatDoor
namespace Go.Proofs.YtdldochhondifaaGreatDoor
open Go.RowKit

/-- What reading a number from a place on comes to. -/
def RnEnd (bs : List Int) (at' : Nat) (k : Nat) (next : Int) : Prop :=
  match rnS 0 (bs.drop at') with
  | some (n, l) => k = n ∧ next = (bs.length : Int) - l.length
  | none => next = -1
def RnPost (bs : List Int) (at' : Nat) (w : World) (e : Ending) (w' : World) : Prop :=
  ∃ (k : Nat) (next : Int), e = .returned (.tuple #[.int .u64 k, .int .i64 next]) ∧ w = w' ∧ k < 18446744073709551616 ∧ RnEnd bs at' k next
theorem RnEnd.none {bs : List Int} {at' k : Nat} (h : rnS 0 (bs.drop at') = none) : RnEnd bs at' k (-1) := by unfold RnEnd; rw [h]
theorem RnEnd.some {bs : List Int} {at' k j : Nat} (h : rnS 0 (bs.drop at') = some (k, bs.drop j)) (hj : j ≤ bs.length) : RnEnd bs at' k j := by
  unfold RnEnd
  rw [h]
  refine ⟨rfl, ?_⟩
  simp only [List.length_drop]
  omega
theorem bat_cell {w : World} {B len c : Nat} {A : Option Addr} {bs : List Int} (h : BAt w B (.slice A len c) bs) (hl : bs.length = len) {k : Nat} (hk : k < len) : ∃ b off x, A = some ⟨b, off, Option.none⟩ ∧ bs[k]? = .some x ∧ w.cell? ⟨b, off + k, Option.none⟩ = .some (.int .u8 x) ∧ bs.drop k = x :: bs.drop (k + 1) := by
  obtain ⟨A', c', e, h1, h2, h3⟩ := h
  cases e
  obtain ⟨b, off, rfl, hb, hc⟩ := h3 (by omega)
  have hx : bs[k]? = .some (bs[k]'(by omega)) := List.getElem?_eq_getElem _
  exact ⟨b, off, _, rfl, hx, hc k _ hx, List.drop_eq_getElem_cons _⟩

set_option maxRecDepth 100000 in
set_option maxHeartbeats 2000000 in
theorem readNumber_any (v : Value) (bs : List Int) (at' : Nat) (az : Int) (w : World) (haz : az = at') (hv : BAt w w.heap.size v bs) (hbs : BytesOk bs) (hat : at' ≤ bs.length) :
    Calls Tryz.prog 158 #[v, .int .i64 az] w (RnPost bs at' w) := by
  have HV := Lib.hid hv
  have HBs := Lib.hid hbs
  obtain ⟨A, c, hvv, hlc, h63, _⟩ := hv
  subst hvv
  obtain ⟨len, hlen⟩ : ∃ len, bs.length = len := ⟨_, rfl⟩
  have HL := Lib.hid hlen
  rw [hlen] at hlc HV hat ⊢
  have Haz := Lib.hid haz
  have haz0 : 0 ≤ az := by omega
  have haz1 : az ≤ len := by omega
  clear hlen hbs haz
  go_enter Tryz.func158, Tryz.ntmps158
  go_wp2_with fail
  go_loop [6, 7] (fun n i => ∃ (acc i' : Nat), n = .int .u64 acc ∧ i = .int .i64 i' ∧ i' ≤ 10 ∧ at' + i' ≤ len ∧ Hid (acc < 128 ^ i') ∧ acc < 18446744073709551616 ∧ Hid (NumNow (bs.drop at') i' acc (bs.drop (at' + i')))) (fun _ i => 10 - (intOf i).toNat)
  case atStart => exact ⟨0, 0, rfl, rfl, by omega, hat, Lib.hid (by omega), by omega, Lib.hid (NumNow.start _)⟩
  case round =>
    obtain ⟨acc, i, rfl, rfl, hi, hai, HA, ha, HN⟩ := hrel
    by_cases hin : i < 10 ∧ at' + i < len
    · obtain ⟨hi9, hail⟩ := hin
      obtain ⟨b, off, d, hA, hx, hc, hdr⟩ := bat_cell HV.out HL.out hail
      subst hA
      have hd := HBs.out d (List.mem_of_getElem? hx)
      have HN1 := Lib.hid (hdr ▸ HN.out : NumNow (bs.drop at') i acc (d :: bs.drop (at' + i + 1)))
      have hz1 : az + (i : Int) < (len : Int) := by have := Haz.out; omega
      have hzt : (az + (i : Int)).toNat = at' + i := by have := Haz.out; omega
      have hz0 : 0 ≤ az + (i : Int) := by omega
      have hd0 : 0 ≤ d := hd.1
      have hd1 : d < 256 := hd.2
      have hm0 : 0 ≤ d % 128 := by omega
      have hm1 : d % 128 < 128 := by omega
      clear hx hdr hd
      by_cases hbig : i = 9 ∧ 1 < d
      · obtain ⟨h9, hd2⟩ := hbig
        have HNo := Lib.hid ((h9 ▸ HN1.out : NumNow (bs.drop at') 9 acc (d :: bs.drop (at' + i + 1))).big hd2)
        have hb9 : ((i : Int) == 9) = true := by simp [h9]
        clear h9
        go_wp2_with fail
        go_ret2
        exact ⟨0, -1, rfl, rfl, by omega, RnEnd.none HNo.out⟩
      · have hfit := digit_fits HA.out (show (d % 128).toNat < 128 by omega) (by omega) (fun h => by omega)
        have hsh : IntKind.u64.wrap (d % 128 * 2 ^ (7 * (i : Int)).toNat) = (((d % 128).toNat * 128 ^ i : Nat) : Int) := by
          have e1 : (7 * (i : Int)).toNat = 7 * i := by omega
          rw [e1, pow7, IntKind.wrap_u64, Int.natCast_mul, show ((d % 128).toNat : Int) = d % 128 by omega]
          have e2 := hfit.1
          have : ((d % 128).toNat * 128 ^ i : Nat) < (18446744073709551616 : Int) := by omega
          rw [Int.natCast_mul, show ((d % 128).toNat : Int) = d % 128 by omega] at this
          exact Int.emod_eq_of_lt (Int.mul_nonneg hm0 (by omega)) this
        have HSh := Lib.hid hsh
        have HF := Lib.hid hfit
        have HBig := Lib.hid hbig
        have hb9 : (i = 9 → ¬ 1 < d) := fun h h' => hbig ⟨h, h'⟩
        clear hsh hfit hbig
        have HSum : Hid (IntKind.u64.wrap ((acc : Int) + IntKind.u64.wrap (d % 128 * 2 ^ (7 * (i : Int)).toNat)) = ((acc + (d % 128).toNat * 128 ^ i : Nat) : Int)) := Lib.hid (by
          rw [HSh.out, IntKind.wrap_u64]
          have := HF.out.2.1
          omega)
        have HSum2 : Hid (IntKind.u64.wrap ((acc : Int) + IntKind.u64.wrap (d % 128 * 2 ^ (7 * i))) = ((acc + (d % 128).toNat * 128 ^ i : Nat) : Int)) := Lib.hid (by
          have := HSum.out
          rwa [show (7 * (i : Int)).toNat = 7 * i by omega] at this)
        by_cases h9 : i = 9
        all_goals
          first | (have hb9' : ((i : Int) == 9) = true := by simp [h9]) | (have hb9' : ((i : Int) == 9) = false := by simp; omega)
          first | (have hle : ¬ 1 < d := hb9 h9) | have hle : True := trivial
          clear hb9
          have H9 := Lib.hid h9
          clear h9
          by_cases h128 : d < 128
          · by_cases h0 : d = 0 ∧ 0 < i
            · obtain ⟨rfl, hi0⟩ := h0
              have HNo := Lib.hid (HN1.out.zero hi0)
              clear HBig
              go_wp2_with fail
              go_ret2
              exact ⟨0, -1, rfl, rfl, by omega, RnEnd.none HNo.out⟩
            · have hlast := HN1.out.last (by omega) h0 HBig.out h128
              rw [show d.toNat = (d % 128).toNat by omega] at hlast
              have HLa := Lib.hid hlast
              have hg0 : d = 0 → ¬ 0 < i := fun h h' => h0 ⟨h, h'⟩
              clear hlast h0 HBig
              by_cases hd0' : d = 0
              all_goals
                first | (have hdb : (d == 0) = true := by simp [hd0']) | (have hdb : (d == 0) = false := by simp [hd0'])
                first | (have hi0 : ¬ 0 < i := hg0 hd0') | have hi0 : True := trivial
                clear hg0
                have Hd0 := Lib.hid hd0'
                clear hd0'
                go_wp2_with fail
                go_ret2
                refine ⟨acc + (d % 128).toNat * 128 ^ i, ((at' + i + 1 : Nat) : Int), ?_, rfl, HF.out.2.1, RnEnd.some HLa.out (by rw [HL.out]; omega)⟩
                have e2 : az + (i : Int) + 1 = ((at' + i + 1 : Nat) : Int) := by have := Haz.out; omega
                rw [← HSum2.out, ← e2]
                rfl
          · first
              | exact absurd (show 1 < d by omega) hle
              | (clear HBig
                 have Hi9 : i ≤ 8 := by have := H9.out; omega
                 go_wp2_with fail
                 go_round
                 case rel =>
                   refine ⟨_, i + 1, by rw [HSum2.out], by go_num, by omega, by omega, Lib.hid HF.out.2.2, HF.out.2.1, Lib.hid ?_⟩
                   rw [show at' + (i + 1) = at' + i + 1 by omega, show (d % 128).toNat = (d - 128).toNat by omega]
                   exact HN1.out.more Hi9 (by omega)
                 case measure => simp [intOf]; omega)
    · have hnone : rnS 0 (bs.drop at') = none := by
        by_cases h10 : i = 10
        · subst h10; exact HN.out.far
        · have : bs.drop (at' + i) = [] := List.drop_eq_nil_of_le (by rw [HL.out]; omega)
          exact (this ▸ HN.out : NumNow (bs.drop at') i acc []).nil
      have HNo := Lib.hid hnone
      have hout : i < 10 → (len : Int) ≤ az + (i : Int) := fun h => by have h1 : ¬ at' + i < len := fun h' => hin ⟨h, h'⟩; have := Haz.out; omega
      clear hnone
      by_cases h10 : i < 10
      all_goals
        first | have hq := hout h10 | have hq : True := trivial
        have hq2 : az + (i : Int) ≤ (len : Int) := by have := Haz.out; omega
        clear hout hin
        go_wp2_with fail
        go_ret2
        exact ⟨0, -1, rfl, rfl, by omega, RnEnd.none HNo.out⟩
end Go.Proofs.YtdldochhondifaaGreatDoor
namespace Go.Proofs.YtdldochhondifaaGreatDoor
open Go.RowKit

/-- The end of a function whose first result lies in a cell. -/
theorem end_cell_tmp {P : Program} {fn : Func} {R : Ending → World → Prop} {a : Act} {w : World} {q p : Tmp} {ty t : TypeId} {g : Nat} {cs : Array Value} {d : TypeDesc} (h : fn.results = #[.cell p ty, .tmp q])
    (hp : a.tmps.getD p undef = .pointer (some ⟨g, 0, none⟩)) (hb : Blk w g t cs) (hu : P.underlying ty = some d) (hd : (match d with | .struct _ | .array _ _ => true | _ => false) = true)
    (hi : (P.info? ty).map (·.size) = some cs.size) (hdf : a.defers = []) (hR : R (.returned (.tuple #[.agg cs, a.tmps.getD q undef])) w) : bodyPost P fn R .ret a w := by
  refine bodyPost_ret (v := .tuple #[.agg cs, a.tmps.getD q undef]) ?_ hdf hR
  have hp' : a.tmps[p]?.getD undef = .pointer (some ⟨g, 0, none⟩) := by simpa using hp
  simp [results, h, hp', asAddr, run_loadVar_row w g t ty cs (0, 0) d hb hu hd hi]

/-- How many of a text's letters are registers. -/
def cntS (l : List UInt8) : Nat := (l.filter fun x => x == 100 || x == 97 || x == 98).length
theorem cntS_snoc (l : List UInt8) (x : UInt8) : cntS (l ++ [x]) = cntS l + if x == 100 || x == 97 || x == 98 then 1 else 0 := by
  unfold cntS
  rw [List.filter_append, List.length_append]
  cases h : (x == 100 || x == 97 || x == 98) <;> simp [h]
theorem cntS_all (op : Int) (h : isOp op = true) : cntS (fldS op).data.toList = manyS op := by
  rw [isOp_iff] at h
  have key : ∀ k : Fin 48, 1 ≤ k.val → cntS (fldS (k.val : Int)).data.toList = manyS (k.val : Int) := by decide +kernel
  have := key ⟨op.toNat, by omega⟩ (by simp; omega)
  simp only [show ((op.toNat : Nat) : Int) = op from by omega] at this
  exact this
theorem take_next (s : ByteArray) (k : Nat) (h : k < s.size) : s.data.toList.take (k + 1) = s.data.toList.take k ++ [s[k]] := by
  rw [List.take_succ_eq_append_getElem (by simpa using h)]; rfl
theorem cntS_le (l : List UInt8) : cntS l ≤ l.length := List.length_filter_le _ _

/-- What reading an instruction from a place on comes to. -/
def RmEnd (bs : List Int) (at' : Nat) (m : Mac) (next : Int) : Prop :=
  match readS (bs.drop at') with
  | some (m', l) => m = m' ∧ next = (bs.length : Int) - l.length
  | none => next = -1
def RmPost (bs : List Int) (at' : Nat) (w : World) (e : Ending) (w' : World) : Prop :=
  ∃ (m : Mac) (next : Int), e = .returned (.tuple #[.agg m.cells.toArray, .int .i64 next]) ∧ Below w.heap.size w w' ∧ RmEnd bs at' m next
theorem RmEnd.noop {bs l : List Int} {at' : Nat} {op : Int} {m : Mac} (hd : bs.drop at' = op :: l) (h : isOp op = false) : RmEnd bs at' m (-1) := by
  unfold RmEnd
  rw [hd, readS_cons, h]
  rfl
theorem RmEnd.noreg {bs l : List Int} {at' : Nat} {op : Int} {m : Mac} (hd : bs.drop at' = op :: l) (h : rregS (manyS op) l = none) : RmEnd bs at' m (-1) := by
  unfold RmEnd
  rw [hd, readS_cons]
  split <;> rename_i hh
  · split at hh
    · rw [h] at hh; cases hh
    · cases hh
  · rfl
theorem RmEnd.regs {bs l rs : List Int} {at' j : Nat} {op : Int} (hd : bs.drop at' = op :: l) (ho : isOp op = true) (hk : shK op = 0) (h : rregS (manyS op) l = some (rs, bs.drop j)) (hj : j ≤ bs.length) : RmEnd bs at' (putRegs op rs 0) j := by
  unfold RmEnd
  rw [hd, readS_cons, if_pos ho, h]
  simp only
  rw [if_pos hk]
  refine ⟨rfl, ?_⟩
  simp only [List.length_drop]
  omega
theorem RmEnd.nonum {bs l rs : List Int} {at' j : Nat} {op : Int} {m : Mac} (hd : bs.drop at' = op :: l) (hk : shK op ≠ 0) (h : rregS (manyS op) l = some (rs, bs.drop j)) (hn : rnS 0 (bs.drop j) = none) : RmEnd bs at' m (-1) := by
  unfold RmEnd
  rw [hd, readS_cons, h]
  simp only
  rw [if_neg hk, hn]
  split <;> rename_i hh
  · split at hh
    · cases hh
    · cases hh
  · first | rfl | trivial
theorem RmEnd.num {bs l rs l' : List Int} {at' j n : Nat} {op : Int} (hd : bs.drop at' = op :: l) (ho : isOp op = true) (hk : shK op ≠ 0) (h : rregS (manyS op) l = some (rs, bs.drop j)) (hn : rnS 0 (bs.drop j) = some (n, l')) : RmEnd bs at' (putRegs op rs (unfoldS n)) ((bs.length : Int) - l'.length) := by
  unfold RmEnd
  rw [hd, readS_cons, if_pos ho, h]
  simp only
  rw [if_neg hk, hn]
  exact ⟨rfl, rfl⟩
theorem RegNow.empty {k : Nat} {bs dn : List Int} (h : RegNow k bs dn [] false) (hk : dn.length < k) : rregS k bs = none := by
  rcases (by omega : k - dn.length = 1 ∨ 2 ≤ k - dn.length) with h1 | h1
  · rcases h.one h1 with ⟨_, e⟩ | ⟨e, _⟩
    · exact e
    · simp at e
  · rcases h.two h1 with ⟨_, e⟩ | ⟨e, _⟩
    · exact e
    · simp at e
theorem RegNow.over {k : Nat} {bs dn l : List Int} {x : Int} (h : RegNow k bs dn (x :: l) false) (hk : k - dn.length = 1) (hx : 15 < x) : rregS k bs = none := by
  rcases h.one hk with ⟨_, e⟩ | ⟨e, _⟩
  · exact e
  · simp at e; omega
theorem RegNow.one' {k : Nat} {bs dn l : List Int} {x : Int} (h : RegNow k bs dn (x :: l) false) (hk : k - dn.length = 1) (hx : ¬ 15 < x) : RegNow k bs (dn ++ [x]) l false := by
  rcases h.one hk with ⟨e, _⟩ | ⟨_, e⟩
  · simp at e; omega
  · refine .inr ⟨rfl, ?_⟩
    simp only [List.headD_cons, List.tail_cons] at e
    rw [e, show k - (dn ++ [x]).length = 0 by simp; omega]
    simp [rregS]
theorem RegNow.two' {k : Nat} {bs dn l : List Int} {x : Int} (h : RegNow k bs dn (x :: l) false) (hk : 2 ≤ k - dn.length) : RegNow k bs (dn ++ [x / 16, x % 16]) l false := by
  have := h.two hk
  simpa using this
theorem RegNow.done {k : Nat} {bs dn left : List Int} (h : RegNow k bs dn left false) (hk : k = dn.length) : rregS k bs = some (dn, left) := by
  rcases h.none_left (by omega) with ⟨e, _⟩ | ⟨_, e⟩
  · cases e
  · exact e
/-- The loop that reads the registers: gk are to come. -/
def rmRel (bs l : List Int) (len : Nat) (op : Int) (w : World) (gr gm : Nat) (gk : Nat) (av rv : Value) (_xv : Value) (wr : World) : Prop :=
  ∃ (p : Nat) (z : Int) (dn : List Int), av = .int .i64 z ∧ z = p ∧ p ≤ len ∧ Hid (OwnInts wr (gm + 1) rv dn) ∧ Hid (dn.length + gk = manyS op) ∧ gk ≤ 3 ∧ dn.length ≤ 3 ∧
    Hid (Blk wr gr 39 #[.int .i64 0, .int .i64 0, .int .i64 0, .int .i64 0, .int .i64 0]) ∧ Hid (Blk wr gm 39 #[.int .i64 op, .int .i64 0, .int .i64 0, .int .i64 0, .int .i64 0]) ∧
    Hid (Below w.heap.size w wr) ∧ Hid (RegNow (manyS op) l dn (bs.drop p) false)
theorem many_le (op : Int) : manyS op ≤ 3 := by rw [← regO_len]; exact regO_le op
end Go.Proofs.YtdldochhondifaaGreatDoor
namespace Go.Proofs.YtdldochhondifaaGreatDoor
open Go.RowKit

theorem u8_is (x : UInt8) (c : UInt8) : ((x.toNat : Int) == (c.toNat : Int)) = (x == c) := by
  rw [Bool.eq_iff_iff, beq_iff_eq, beq_iff_eq]
  constructor
  · intro h
    exact UInt8.toNat_inj.1 (by omega)
  · rintro rfl
    rfl
theorem OwnInts.bcell {w w' : World} {base B : Nat} {v : Value} {xs : List Int} (h : OwnInts w base v xs) (hb : Below B w w') (hB : B = w.heap.size) : OwnInts w' base v xs := h.below hb hB
/-- The registers' values by their letters. -/
def regD (op : Int) (rs : List Int) : Int := if hasS (fldS op) 100 then rs.getD 0 0 else 0
def nD (op : Int) : Nat := if hasS (fldS op) 100 then 1 else 0
def regA (op : Int) (rs : List Int) : Int := if hasS (fldS op) 97 then rs.getD (nD op) 0 else 0
def nA (op : Int) : Nat := nD op + if hasS (fldS op) 97 then 1 else 0
def regB (op : Int) (rs : List Int) : Int := if hasS (fldS op) 98 then rs.getD (nA op) 0 else 0
theorem put_getD (op : Int) (rs : List Int) (n : Int) : putRegs op rs n = ⟨op, regD op rs, regA op rs, regB op rs, n⟩ := by
  unfold putRegs regD regA regB nA nD shD shA shB
  have h1 : ∀ l : List Int, l.headD 0 = l.getD 0 0 := fun l => by cases l <;> rfl
  have h2 : ∀ (l : List Int) (k : Nat), l.tail.getD k 0 = l.getD (k + 1) 0 := fun l k => by cases l <;> rfl
  cases hasS (fldS op) 100 <;> cases hasS (fldS op) 97 <;> cases hasS (fldS op) 98 <;> simp [h1, h2, -List.headD_eq_head?_getD, -List.getD_eq_getElem?_getD]
theorem many_n (op : Int) : manyS op = nA op + if hasS (fldS op) 98 then 1 else 0 := rfl
theorem getD_some {rs : List Int} {k : Nat} (h : k < rs.length) : rs[k]? = some (rs.getD k 0) := by
  rw [List.getD_eq_getElem?_getD, List.getElem?_eq_getElem h]
  rfl
theorem regD_some {op x : Int} {rs : List Int} (h : hasS (fldS op) 100 = true) (hx : rs[0]? = some x) : regD op rs = x := by unfold regD; rw [h, if_pos rfl, List.getD_eq_getElem?_getD, hx]; rfl
theorem regA_some {op x : Int} {rs : List Int} (h : hasS (fldS op) 97 = true) (hx : rs[nD op]? = some x) : regA op rs = x := by unfold regA; rw [h, if_pos rfl, List.getD_eq_getElem?_getD, hx]; rfl
theorem regB_some {op x : Int} {rs : List Int} (h : hasS (fldS op) 98 = true) (hx : rs[nA op]? = some x) : regB op rs = x := by unfold regB; rw [h, if_pos rfl, List.getD_eq_getElem?_getD, hx]; rfl
theorem regD_no {op : Int} {rs : List Int} (h : hasS (fldS op) 100 = false) : regD op rs = 0 := by unfold regD; rw [h]; rfl
theorem regA_no {op : Int} {rs : List Int} (h : hasS (fldS op) 97 = false) : regA op rs = 0 := by unfold regA; rw [h]; rfl
theorem regB_no {op : Int} {rs : List Int} (h : hasS (fldS op) 98 = false) : regB op rs = 0 := by unfold regB; rw [h]; rfl
/-- The instruction under way, and the list of its registers. -/
def RmNow (gr : Nat) (w : World) (op : Int) (rv : Value) (rs : List Int) (d a b : Int) (wx : World) : Prop := MacNow w.heap.size gr (gr + 1) w op d a b 0 wx ∧ Hid (OwnInts wx (gr + 2) rv rs)
set_option maxRecDepth 100000 in
set_option maxHeartbeats 8000000 in
theorem ReadMac_any (v : Value) (bs : List Int) (at' : Nat) (az : Int) (w : World) (haz : az = at') (hv : BAt w w.heap.size v bs) (hbs : BytesOk bs) (hat : at' < bs.length) :
    Calls Tryz.prog 126 #[v, .int .i64 az] w (RmPost bs at' w) := by
  have HV := Lib.hid hv
  have HBs := Lib.hid hbs
  obtain ⟨A, c, hvv, hlc, h63, _⟩ := hv
  subst hvv
  obtain ⟨len, hlen⟩ : ∃ len, bs.length = len := ⟨_, rfl⟩
  have HL := Lib.hid hlen
  rw [hlen] at hlc HV hat ⊢
  obtain ⟨b, off, op, hA, hx, hc0, hdr⟩ := bat_cell HV.out HL.out hat
  subst hA
  have Haz := Lib.hid haz
  have haz0 : 0 ≤ az := by omega
  have haz1 : az < len := by omega
  have hazt : az.toNat = at' := by omega
  have Hdr := Lib.hid hdr
  have hop := HBs.out op (List.mem_of_getElem? hx)
  have ho0 : 0 ≤ op := hop.1
  have ho1 : op < 256 := hop.2
  have hwop : IntKind.i64.wrap op = op := by rw [IntKind.wrap_i64]; omega
  have hbw : b < w.heap.size := by
    have := World.block_lt_of_cell? _ _ hc0
    exact this
  have hc : (w.alloc (.cells #[.int .i64 0, .int .i64 0, .int .i64 0, .int .i64 0, .int .i64 0] 39)).cell? ⟨b, off + at', none⟩ = some (.int .u8 op) := (bcell ((Below.refl w.heap.size w).alloc (Nat.le_refl _) _) hbw).trans hc0
  have Hc0 := Lib.hid hc0
  have HZ := Lib.hid (fld_ok op)
  clear hlen hbs haz hx hdr hop hc0
  go_enter Tryz.func126, Tryz.ntmps126
  go_wp2_with fail
  refine (Fields_any _ _).mono ?_
  rintro e w1 ⟨rfl, hb1⟩
  have hz1 : w.heap.size + 1 < w1.heap.size := by have := hb1.size; simp at this; omega
  have HQ := Lib.hid (((Blk.new w 39 #[.int .i64 0, .int .i64 0, .int .i64 0, .int .i64 0, .int .i64 0]).alloc (.cells #[.int .i64 op, .int .i64 0, .int .i64 0, .int .i64 0, .int .i64 0] 39)).below hb1 (by simp; omega))
  have HM : Hid (Blk w1 (w.heap.size + 1) 39 #[.int .i64 op, .int .i64 0, .int .i64 0, .int .i64 0, .int .i64 0]) := Lib.hid (Blk.below (by have := Blk.new (w.alloc (.cells #[.int .i64 0, .int .i64 0, .int .i64 0, .int .i64 0, .int .i64 0] 39)) 39 #[.int .i64 op, .int .i64 0, .int .i64 0, .int .i64 0, .int .i64 0]; simpa using this) hb1 (by simp))
  have HB : Hid (Below w.heap.size w w1) := Lib.hid ((((Below.refl _ _).alloc (Nat.le_refl _) _).alloc (by simp) _).trans (hb1.mono (by simp; omega)))
  clear hb1 hc
  obtain ⟨gr, hgr⟩ : ∃ gr, w.heap.size = gr := ⟨_, rfl⟩
  have Hgr := Lib.hid hgr
  rw [hgr] at HQ HM hz1 ⊢
  clear hgr
  cases hop : isOp op
  · have hq := fld_q op hop
    have Hop := Lib.hid hop
    have c0 := HM.out.cell 0
    have c1 := HM.out.cell 1
    have c2 := HM.out.cell 2
    have c3 := HM.out.cell 3
    have c4 := HM.out.cell 4
    have q0 := HQ.out.cell 0
    have q1 := HQ.out.cell 1
    have q2 := HQ.out.cell 2
    have q3 := HQ.out.cell 3
    have q4 := HQ.out.cell 4
    have k0 := HQ.out.frozen 0
    have k1 := HQ.out.frozen 1
    have k2 := HQ.out.frozen 2
    have k3 := HQ.out.frozen 3
    have k4 := HQ.out.frozen 4
    clear hop
    go_wp2_with fail
    refine end_cell_tmp rfl rfl (HQ.out.set5 _ _ _ _ _) Tryz.underlying39 rfl (by kernel_rfl) rfl ?_
    exact ⟨⟨op, 0, 0, 0, 0⟩, -1, rfl, by have hb := HB.out; rw [Hgr.out] at hb ⊢; exact bset 4 (bset 3 (bset 2 (bset 1 (bset 0 hb _) _) _) _) _, RmEnd.noop Hdr.out Hop.out⟩
  · have hq := (fld_cases op hop).1
    have Hop := Lib.hid hop
    have HCa := Lib.hid (cntS_all op hop)
    have hsz := fld_size op
    clear hop
    have haz2 : az + 1 ≤ len := by omega
    go_wp2_with fail
    go_loop [8, 9] (fun m i => ∃ (k : Nat), k ≤ (fldS op).size ∧ i = .int .i64 k ∧ m = .int .i64 (cntS ((fldS op).data.toList.take k))) (fun _ i => (fldS op).size - (intOf i).toNat)
    case atStart => exact ⟨0, Nat.zero_le _, rfl, rfl⟩
    case round =>
      obtain ⟨k, hk, rfl, rfl⟩ := hrel
      have hcl := cntS_le ((fldS op).data.toList.take k)
      have hlk : ((fldS op).data.toList.take k).length ≤ k := List.length_take_le _ _
      by_cases hlt : k < (fldS op).size
      · have hn := cntS_snoc ((fldS op).data.toList.take k) (fldS op)[k]
        rw [← take_next (fldS op) k hlt] at hn
        have e1 : (((fldS op)[k].toNat : Int) == 100) = ((fldS op)[k] == 100) := u8_is _ 100
        have e2 : (((fldS op)[k].toNat : Int) == 97) = ((fldS op)[k] == 97) := u8_is _ 97
        have e3 : (((fldS op)[k].toNat : Int) == 98) = ((fldS op)[k] == 98) := u8_is _ 98
        cases h1 : ((fldS op)[k] == 100)
        · cases h2 : ((fldS op)[k] == 97)
          · cases h3 : ((fldS op)[k] == 98)
            all_goals
              rw [h1] at e1
              rw [h2] at e2
              rw [h3] at e3
              rw [h1, h2, h3] at hn
              simp only [Bool.or_false, Bool.or_true, Bool.false_eq_true, if_false, if_true, Nat.add_zero] at hn
              have HN := Lib.hid hn
              clear hn h1 h2 h3
              go_wp2_with fail
              go_round
              case rel => exact ⟨k + 1, by omega, by go_num, by rw [HN.out] <;> first | rfl | go_num⟩
              case measure => simp [intOf]; omega
          · rw [h1] at e1
            rw [h2] at e2
            rw [h1, h2] at hn
            simp only [Bool.or_true, Bool.true_or, if_true] at hn
            have HN := Lib.hid hn
            clear hn h1 h2 e3
            go_wp2_with fail
            go_round
            case rel => exact ⟨k + 1, by omega, by go_num, by rw [HN.out]; go_num⟩
            case measure => simp [intOf]; omega
        · rw [h1] at e1
          rw [h1] at hn
          simp only [Bool.true_or, if_true] at hn
          have HN := Lib.hid hn
          clear hn h1 e2 e3
          go_wp2_with fail
          go_round
          case rel => exact ⟨k + 1, by omega, by go_num, by rw [HN.out]; go_num⟩
          case measure => simp [intOf]; omega
      · have hall : cntS ((fldS op).data.toList.take k) = manyS op := by rw [List.take_of_length_le (by show (fldS op).size ≤ k; omega), HCa.out]
        have HAll := Lib.hid hall
        rw [hall] at hcl ⊢
        clear hall hcl hlk
        have hm3 := many_le op
        go_wp2_with fail
        generalize hK : manyS op = K at *
        have HK := Lib.hid hK
        clear hK
        go_loopg [1, 10, 11] K (rmRel bs (bs.drop (at' + 1)) len op w gr (gr + 1))
        case atStart => exact ⟨at' + 1, az + 1, [], rfl, by omega, by omega, Lib.hid (OwnInts.nil _ _), Lib.hid (by rw [HK.out]; simp), hm3, by simp, HQ, HM, HB, Lib.hid (RegNow.start _ _)⟩
        case round =>
          obtain ⟨p, z, dn, rfl, hz, hp, HO, HD, hg3, hd3, HQ, HM, HB, HN⟩ := hrel
          obtain ⟨Ar, cr, hrv⟩ := own_form HO.out
          subst hrv
          have hzb : w.heap.size ≤ wr.heap.size := HB.out.size
          have hgz : gr + 1 < wr.heap.size := HM.out.lt
          obtain ⟨n, hn⟩ : ∃ n, dn.length = n := ⟨_, rfl⟩
          have Hn := Lib.hid hn
          rw [hn] at hd3 HO ⊢
          clear hn
          have hnk : n + gk = K := by have := HD.out; have := HK.out; have := Hn.out; omega
          have Hz := Lib.hid hz
          have hz0 : 0 ≤ z := by omega
          have hz1 : z ≤ len := by omega
          have hzt : z.toNat = p := by omega
          clear hz
          by_cases hgk : gk = 0
          · have hnlt : ¬ n < K := by omega
            obtain rfl : n = K := by omega
            have HMany : Hid (n = nA op + if hasS (fldS op) 98 then 1 else 0) := Lib.hid (by rw [← HK.out]; exact many_n op)
            have HReg := Lib.hid (HN.out.done (by have := Hn.out; have := HK.out; omega))
            have HW : RmNow gr w op (.slice Ar n cr) dn 0 0 0 wr := ⟨⟨HQ, HM, HB⟩, Lib.hid HO.out⟩
            have hne : gr ≠ gr + 1 := by omega
            have hneg := hne
            have hle : w.heap.size ≤ gr + 1 := by rw [Hgr.out]; omega
            have hset : gr + 1 < gr + 2 := by omega
            clear HQ HM HB HN HD hgk
            go_upto_if 89 with (go_at_call 76; refine (Has_any _ _ _ HZ.out).mono ?_; rintro e w' ⟨rfl, rfl⟩)
            go_cut [12] (fun s wx => s = .int .i64 (nD op : Nat) ∧ RmNow gr w op (.slice Ar n cr) dn (regD op dn) 0 0 wx)
            case first =>
              cases hh : hasS (fldS op) 100
              · have Hh := Lib.hid hh
                go_wp2_with fail
                go_meet
                exact ⟨by unfold nD; rw [Hh.out]; rfl, by rw [regD_no Hh.out]; exact HW⟩
              · have Hh := Lib.hid hh
                have hlt : 0 < n := by have := HMany.out; unfold nA nD at this; rw [hh] at this; simp at this; omega
                obtain ⟨g2, cap2, hv2, _⟩ := own_someI HO.out (by rw [Hn.out]; exact hlt)
                cases hv2
                obtain ⟨xv, hxv⟩ : ∃ xv, dn[0]? = some xv := ⟨dn[0]'(by rw [Hn.out]; exact hlt), List.getElem?_eq_getElem _⟩
                have cx := own_cell HO.out hxv
                have c1 := HW.1.2.1.out.cell 1
                have f1 := HW.1.2.1.out.frozen 1
                have Hx := Lib.hid (regD_some hh hxv)
                clear hxv hh
                go_wp2_with fail
                go_meet
                exact ⟨by unfold nD; rw [Hh.out]; rfl, by rw [Hx.out]; exact ⟨HW.1.put1 hne hle _, Lib.hid (OwnInts.set HW.2.out hset _)⟩⟩
            case rest =>
              obtain ⟨rfl, HW⟩ := hcut
              go_upto_if 98 with (go_at_call 76; refine (Has_any _ _ _ HZ.out).mono ?_; rintro e w' ⟨rfl, rfl⟩)
              go_cut [12] (fun s wx => s = .int .i64 (nA op : Nat) ∧ RmNow gr w op (.slice Ar n cr) dn (regD op dn) (regA op dn) 0 wx)
              case first =>
                cases hh : hasS (fldS op) 97
                · have Hh := Lib.hid hh
                  go_wp2_with fail
                  go_meet
                  exact ⟨by unfold nA; rw [Hh.out]; rfl, by rw [regA_no Hh.out]; exact HW⟩
                · have Hh := Lib.hid hh
                  have hlt : nD op < n := by have := HMany.out; unfold nA at this; rw [hh] at this; simp at this; omega
                  obtain ⟨g2, cap2, hv2, _⟩ := own_someI HW.2.out (by rw [Hn.out]; omega)
                  cases hv2
                  obtain ⟨xv, hxv⟩ : ∃ xv, dn[nD op]? = some xv := ⟨dn[nD op]'(by rw [Hn.out]; exact hlt), List.getElem?_eq_getElem _⟩
                  have cx := own_cell HW.2.out hxv
                  have c1 := HW.1.2.1.out.cell 2
                  have f1 := HW.1.2.1.out.frozen 2
                  have Hx := Lib.hid (regA_some hh hxv)
                  clear hxv hh
                  go_wp2_with fail
                  go_meet
                  exact ⟨by unfold nA; rw [Hh.out]; go_num, by rw [Hx.out]; exact ⟨HW.1.put2 hne hle _, Lib.hid (OwnInts.set HW.2.out hset _)⟩⟩
              case rest =>
                obtain ⟨rfl, HW⟩ := hcut
                go_upto_if 107 with (go_at_call 76; refine (Has_any _ _ _ HZ.out).mono ?_; rintro e w' ⟨rfl, rfl⟩)
                go_cut [12] (fun s wx => s = .int .i64 (nA op : Nat) ∧ RmNow gr w op (.slice Ar n cr) dn (regD op dn) (regA op dn) (regB op dn) wx)
                case first =>
                  cases hh : hasS (fldS op) 98
                  · have Hh := Lib.hid hh
                    go_wp2_with fail
                    go_meet
                    exact ⟨rfl, by rw [regB_no Hh.out]; exact HW⟩
                  · have Hh := Lib.hid hh
                    have hlt : nA op < n := by have := HMany.out; rw [hh] at this; simp at this; omega
                    obtain ⟨g2, cap2, hv2, _⟩ := own_someI HW.2.out (by rw [Hn.out]; omega)
                    cases hv2
                    obtain ⟨xv, hxv⟩ : ∃ xv, dn[nA op]? = some xv := ⟨dn[nA op]'(by rw [Hn.out]; exact hlt), List.getElem?_eq_getElem _⟩
                    have cx := own_cell HW.2.out hxv
                    have c1 := HW.1.2.1.out.cell 3
                    have f1 := HW.1.2.1.out.frozen 3
                    have Hx := Lib.hid (regB_some hh hxv)
                    clear hxv hh
                    go_wp2_with fail
                    go_meet
                    exact ⟨rfl, by rw [Hx.out]; exact ⟨HW.1.put3 hne hle _, Lib.hid (OwnInts.set HW.2.out hset _)⟩⟩
                case rest =>
                  obtain ⟨rfl, ⟨HQ, HM, HB⟩, _⟩ := hcut
                  have HPut : Hid (∀ x : Int, putRegs op dn x = ⟨op, regD op dn, regA op dn, regB op dn, x⟩) := Lib.hid fun x => put_getD op dn x
                  generalize regD op dn = d at *
                  generalize regA op dn = a at *
                  generalize regB op dn = bb at *
                  have c0 := HM.out.cell 0
                  have c1 := HM.out.cell 1
                  have c2 := HM.out.cell 2
                  have c3 := HM.out.cell 3
                  have c4 := HM.out.cell 4
                  have q0 := HQ.out.cell 0
                  have q1 := HQ.out.cell 1
                  have q2 := HQ.out.cell 2
                  have q3 := HQ.out.cell 3
                  have q4 := HQ.out.cell 4
                  have k0 := HQ.out.frozen 0
                  have k1 := HQ.out.frozen 1
                  have k2 := HQ.out.frozen 2
                  have k3 := HQ.out.frozen 3
                  have k4 := HQ.out.frozen 4
                  have f4 := HM.out.frozen 4
                  have hb0 := HB.out
                  rw [Hgr.out] at hb0
                  have HB0 := Lib.hid hb0
                  clear hb0
                  by_cases hk : shK op = 0
                  · have Hk := Lib.hid hk
                    have hkc := kind_cases op
                    simp only [hk, not_true_eq_false, and_false, false_or, and_true] at hkc
                    obtain ⟨e1, e2, e3, e4⟩ := hkc
                    clear hk
                    go_wp2_with (go_at_call 76; refine (Has_any _ _ _ HZ.out).mono ?_; rintro e w' ⟨rfl, rfl⟩)
                    refine end_cell_tmp rfl rfl (HQ.out.set5 _ _ _ _ _) Tryz.underlying39 rfl (by kernel_rfl) rfl ?_
                    refine ⟨⟨op, d, a, bb, 0⟩, z, rfl, by rw [Hgr.out]; exact bset 4 (bset 3 (bset 2 (bset 1 (bset 0 HB0.out _) _) _) _) _, ?_⟩
                    rw [Hz.out, ← HPut.out 0]
                    exact RmEnd.regs Hdr.out Hop.out Hk.out HReg.out (by rw [HL.out]; omega)
                  · have Hk := Lib.hid hk
                    rcases kind_cases op with ⟨e1, hk'⟩ | ⟨e1, e2, hk'⟩ | ⟨e1, e2, e3, hk'⟩ | ⟨e1, e2, e3, e4, hk'⟩ | ⟨_, _, _, _, hk'⟩
                    case inr.inr.inr.inr => exact absurd hk' hk
                    all_goals
                      clear hk hk'
                      go_wp2_with (go_at_call 76; refine (Has_any _ _ _ HZ.out).mono ?_; rintro e w' ⟨rfl, rfl⟩)
                      refine (readNumber_any _ bs p z _ Hz.out ((HV.out.below HB.out (Nat.le_refl _)).more HB.out.size) HBs.out (by rw [HL.out]; omega)).mono ?_
                      rintro e w' ⟨k', next, rfl, rfl, hk64, hne⟩
                      cases hr : rnS 0 (bs.drop p) with
                      | none =>
                        have hn1 : next = -1 := by unfold RnEnd at hne; rw [hr] at hne; exact hne
                        subst hn1
                        have Hr := Lib.hid hr
                        clear hne hr
                        go_wp2_with fail
                        refine end_cell_tmp rfl rfl (HQ.out.set5 _ _ _ _ _) Tryz.underlying39 rfl (by kernel_rfl) rfl ?_
                        exact ⟨⟨op, d, a, bb, 0⟩, -1, rfl, by rw [Hgr.out]; exact bset 4 (bset 3 (bset 2 (bset 1 (bset 0 HB0.out _) _) _) _) _, RmEnd.nonum Hdr.out Hk.out HReg.out Hr.out⟩
                      | some q =>
                        obtain ⟨n', l'⟩ := q
                        have hn1 : k' = n' ∧ next = (bs.length : Int) - l'.length := by unfold RnEnd at hne; rw [hr] at hne; exact hne
                        obtain ⟨rfl, hnx⟩ := hn1
                        have hl' : l'.length ≤ len := by
                          obtain ⟨m0, _, e0, _⟩ := rn_back (bs.drop p) 0 _ _ (fun y hy => HBs.out y (List.mem_of_mem_drop hy)) hr
                          have := congrArg List.length e0
                          simp only [List.length_drop, List.length_append] at this
                          have := HL.out
                          omega
                        have hnx0 : 0 ≤ next := by have := HL.out; omega
                        have HE := Lib.hid (RmEnd.num Hdr.out Hop.out Hk.out HReg.out hr)
                        rw [HPut.out, ← hnx] at HE
                        clear hne hr hnx hl'
                        by_cases hodd : k' % 2 = 1
                        · have hu : unfoldS k' = -((k' : Int) / 2) - 1 := by unfold unfoldS; rw [if_pos hodd]; omega
                          have hb1 : ((k' : Int) % 2 == 1) = true := by simp; omega
                          have Hu := Lib.hid hu
                          clear hodd hu
                          go_wp2_with fail
                          refine end_cell_tmp rfl rfl (((HQ.out.far (p := ⟨gr + 1, 4, none⟩) hneg _).far (p := ⟨gr + 1, 4, none⟩) hneg _).set5 _ _ _ _ _) Tryz.underlying39 rfl (by kernel_rfl) rfl ?_
                          refine ⟨⟨op, d, a, bb, -((k' : Int) / 2) - 1⟩, next, rfl, by rw [Hgr.out]; exact bset 4 (bset 3 (bset 2 (bset 1 (bset 0 ((HB0.out.setCell (p := ⟨gr + 1, 4, none⟩) (Nat.le_succ _) _).setCell (p := ⟨gr + 1, 4, none⟩) (Nat.le_succ _) _) _) _) _) _) _, ?_⟩
                          rw [← Hu.out]
                          exact HE.out
                        · have hu : unfoldS k' = (k' : Int) / 2 := by unfold unfoldS; rw [if_neg hodd]; omega
                          have hb1 : ((k' : Int) % 2 == 1) = false := by simp; omega
                          have Hu := Lib.hid hu
                          clear hodd hu
                          go_wp2_with fail
                          refine end_cell_tmp rfl rfl ((HQ.out.far (p := ⟨gr + 1, 4, none⟩) hneg _).set5 _ _ _ _ _) Tryz.underlying39 rfl (by kernel_rfl) rfl ?_
                          refine ⟨⟨op, d, a, bb, (k' : Int) / 2⟩, next, rfl, by rw [Hgr.out]; exact bset 4 (bset 3 (bset 2 (bset 1 (bset 0 (HB0.out.setCell (p := ⟨gr + 1, 4, none⟩) (Nat.le_succ _) _) _) _) _) _) _, ?_⟩
                          rw [← Hu.out]
                          exact HE.out
          · have hnlt : n < K := by omega
            by_cases hpl : p < len
            · obtain ⟨b', off', x, hA, hx, hc, hdr⟩ := bat_cell HV.out HL.out hpl
              cases hA
              have hcx := (bcell HB.out hbw).trans hc
              have hxr := HBs.out x (List.mem_of_getElem? hx)
              have hx0 : 0 ≤ x := hxr.1
              have hx1 : x < 256 := hxr.2
              have hzl : z < len := by omega
              have hz2 : z + 1 ≤ len := by omega
              have HN1 := Lib.hid (hdr ▸ HN.out : RegNow (manyS op) (bs.drop (at' + 1)) dn (x :: bs.drop (p + 1)) false)
              clear hc hxr hx hdr
              by_cases h2 : 1 < gk
              · have hsub : (1 : Int) < (K : Int) - (n : Int) := by omega
                have HN2 := Lib.hid (HN1.out.two' (by have := Hn.out; have := HK.out; omega))
                go_wp2_with (at_builtin; refine app_src rfl _ _ 29 3 rfl (.int .i64 0) 1 8 Tryz.underlying29 infoInt rfl (by decide) (by decide) (gr + 1 + 1) _ _ _ rfl (HO.out.alloc _) _ 2 2 [.int .i64 (x / 16), .int .i64 (x % 16)] rfl rfl (fun _ => ⟨_, rfl, cells_new _ _ _ _ rfl⟩) (fun u hu => by simp at hu; rcases hu with rfl | rfl <;> rfl) (by have := Hn.out; omega) (by simp; omega) _ rfl ?_; intro v' w' HA)
                go_roundg (gk - 2)
                case measure => omega
                case rel =>
                  refine ⟨p + 1, z + 1, dn ++ [x / 16, x % 16], rfl, by have := Hz.out; omega, by omega, Lib.hid ?_, Lib.hid ?_, by omega, ?_, Lib.hid (HA.out.blk (HO.out.alloc _) (HQ.out.alloc _) (by decide)), Lib.hid (HA.out.blk (HO.out.alloc _) (HM.out.alloc _) (by decide)), Lib.hid ((HB.out.alloc hzb _).trans (HA.out.below.mono (by rw [Hgr.out]; omega))), HN2⟩
                  · have := HA.out.own
                    unfold OwnInts
                    rw [List.length_append, List.map_append]
                    exact this
                  · have := HD.out
                    simp only [List.length_append, List.length_cons, List.length_nil]
                    omega
                  · have := Hn.out
                    simp only [List.length_append, List.length_cons, List.length_nil]
                    omega
              · obtain rfl : gk = 1 := by omega
                have hsub : ¬ (1 : Int) < (K : Int) - (n : Int) := by omega
                by_cases hx15 : 15 < x
                · have HE := Lib.hid (HN1.out.over (by have := Hn.out; have := HK.out; omega) hx15)
                  have c0 := HM.out.cell 0
                  have c1 := HM.out.cell 1
                  have c2 := HM.out.cell 2
                  have c3 := HM.out.cell 3
                  have c4 := HM.out.cell 4
                  have q0 := HQ.out.cell 0
                  have q1 := HQ.out.cell 1
                  have q2 := HQ.out.cell 2
                  have q3 := HQ.out.cell 3
                  have q4 := HQ.out.cell 4
                  have k0 := HQ.out.frozen 0
                  have k1 := HQ.out.frozen 1
                  have k2 := HQ.out.frozen 2
                  have k3 := HQ.out.frozen 3
                  have k4 := HQ.out.frozen 4
                  go_wp2_with fail
                  refine end_cell_tmp rfl rfl (HQ.out.set5 _ _ _ _ _) Tryz.underlying39 rfl (by kernel_rfl) rfl ?_
                  exact ⟨⟨op, 0, 0, 0, 0⟩, -1, rfl, by have hb := HB.out; rw [Hgr.out] at hb ⊢; exact bset 4 (bset 3 (bset 2 (bset 1 (bset 0 hb _) _) _) _) _, RmEnd.noreg Hdr.out HE.out⟩
                · have HN2 := Lib.hid (HN1.out.one' (by have := Hn.out; have := HK.out; omega) hx15)
                  go_wp2_with (at_builtin; refine app_one rfl _ _ 29 3 rfl (.int .i64 0) 1 8 Tryz.underlying29 infoInt rfl (by decide) (by decide) (gr + 1 + 1) (.slice Ar n cr) _ _ rfl HO.out _ [.int .i64 x] rfl rfl (fun u hu => by simp at hu; subst hu; rfl) rfl (by have := Hn.out; omega) (by omega) ?_; intro v' w' HA)
                  go_roundg 0
                  case measure => omega
                  case rel =>
                    refine ⟨p + 1, z + 1, dn ++ [x], rfl, by have := Hz.out; omega, by omega, Lib.hid ?_, Lib.hid ?_, by omega, ?_, Lib.hid (HA.out.blk HO.out HQ.out (by decide)), Lib.hid (HA.out.blk HO.out HM.out (by decide)), Lib.hid (HB.out.trans (HA.out.below.mono (by rw [Hgr.out]; omega))), HN2⟩
                    · have := HA.out.own
                      unfold OwnInts
                      rw [List.length_append, List.map_append]
                      exact this
                    · have := HD.out
                      simp only [List.length_append, List.length_cons, List.length_nil]
                      omega
                    · have := Hn.out
                      simp only [List.length_append, List.length_cons, List.length_nil]
                      omega
            · have HE : Hid (rregS (manyS op) (bs.drop (at' + 1)) = none) := Lib.hid (by
                have hnil : bs.drop p = [] := List.drop_eq_nil_of_le (by rw [HL.out]; omega)
                have h := HN.out
                rw [hnil] at h
                exact h.empty (by have := Hn.out; have := HK.out; omega))
              have hzl : (len : Int) ≤ z := by have := Hz.out; omega
              have c0 := HM.out.cell 0
              have c1 := HM.out.cell 1
              have c2 := HM.out.cell 2
              have c3 := HM.out.cell 3
              have c4 := HM.out.cell 4
              have q0 := HQ.out.cell 0
              have q1 := HQ.out.cell 1
              have q2 := HQ.out.cell 2
              have q3 := HQ.out.cell 3
              have q4 := HQ.out.cell 4
              have k0 := HQ.out.frozen 0
              have k1 := HQ.out.frozen 1
              have k2 := HQ.out.frozen 2
              have k3 := HQ.out.frozen 3
              have k4 := HQ.out.frozen 4
              go_wp2_with fail
              refine end_cell_tmp rfl rfl (HQ.out.set5 _ _ _ _ _) Tryz.underlying39 rfl (by kernel_rfl) rfl ?_
              exact ⟨⟨op, 0, 0, 0, 0⟩, -1, rfl, by have hb := HB.out; rw [Hgr.out] at hb ⊢; exact bset 4 (bset 3 (bset 2 (bset 1 (bset 0 hb _) _) _) _) _, RmEnd.noreg Hdr.out HE.out⟩
end Go.Proofs.YtdldochhondifaaGreatDoor
namespace Go.Proofs.YtdldochhondifaaGreatDoor
open Go.RowKit

theorem suffix_drop {bs a l' : List Int} {p : Nat} (h : bs.drop p = a ++ l') (hp : p ≤ bs.length) : l' = bs.drop (bs.length - l'.length) ∧ l'.length ≤ bs.length := by
  have e1 := congrArg List.length h
  simp only [List.length_drop, List.length_append] at e1
  refine ⟨?_, by omega⟩
  have e2 : l' = (bs.drop p).drop a.length := by rw [h, List.drop_left]
  refine e2.trans ?_
  rw [List.drop_drop]
  congr 1
  omega
/-- The loop that reads from a place on. -/
def bytesRel (bs : List Int) (w : World) (gk : Nat) (lv pv : Value) (wr : World) : Prop :=
  ∃ (ms : List Mac) (p : Nat) (z : Int), pv = .int .i64 z ∧ Hid (z = p) ∧ p ≤ bs.length ∧ bs.length - p ≤ gk ∧ Hid (decS bs.length bs = preE ms (decS gk (bs.drop p))) ∧ Hid (OwnMacs wr (w.heap.size + 1) lv ms) ∧
    Hid (Blk wr w.heap.size 24 #[.int .i64 0, .int .i64 0]) ∧ Hid (Below w.heap.size w wr) ∧ Hid (ms.length ≤ p)

set_option maxRecDepth 100000 in
set_option maxHeartbeats 2000000 in
theorem BytesRead_any (v : Value) (bs : List Int) (w : World) (hv : BAt w w.heap.size v bs) (hbs : BytesOk bs) :
    Calls Tryz.prog 91 #[v] w (MacsPost w (readL bs).1 (readL bs).2) := by
  have HV := Lib.hid hv
  have HBs := Lib.hid hbs
  obtain ⟨A, c, hvv, hlc, h63, _⟩ := hv
  subst hvv
  obtain ⟨len, hlen⟩ : ∃ len, bs.length = len := ⟨_, rfl⟩
  have HL := Lib.hid hlen
  rw [hlen] at hlc HV ⊢
  clear hlen hbs
  by_cases hbig : 70000 < len
  · have HE : Hid (readL bs = ((2, 0), [])) := Lib.hid (by unfold readL; rw [if_pos (by rw [HL.out]; exact hbig)])
    go_enter Tryz.func91, Tryz.ntmps91
    go_wp2_with fail
    refine end_tmp_cell rfl rfl (Blk.new _ _ _) Tryz.underlying24 rfl (by kernel_rfl) rfl ⟨_, by rw [HE.out], ?_, (Below.refl _ _).alloc (Nat.le_refl _) _⟩
    rw [HE.out]
    exact OwnMacs.nil _ _
  · have HBig := Lib.hid hbig
    have HW0 : Hid (Below w.heap.size w (w.alloc (.cells #[.int .i64 0, .int .i64 0] 24))) := Lib.hid ((Below.refl _ _).alloc (Nat.le_refl _) _)
    have HK0 : Hid (Blk (w.alloc (.cells #[.int .i64 0, .int .i64 0] 24)) w.heap.size 24 #[.int .i64 0, .int .i64 0]) := Lib.hid (Blk.new w _ _)
    go_enter Tryz.func91, Tryz.ntmps91
    go_wp2_with fail
    generalize w.alloc (.cells #[.int .i64 0, .int .i64 0] 24) = W at *
    go_loopg [4, 5] len (bytesRel bs w)
    case atStart => exact ⟨[], 0, 0, rfl, Lib.hid rfl, by omega, by rw [HL.out]; omega, Lib.hid (by rw [preE_nil, HL.out, List.drop_zero]), Lib.hid (OwnMacs.nil _ _), HK0, HW0, Lib.hid (by simp)⟩
    case round =>
      obtain ⟨ms, p, z, rfl, Hz, hp, hk, HD, HO, HK, HB, HLe⟩ := hrel
      clear HW0 HK0
      rw [HL.out] at hp hk
      have hzw : w.heap.size < wr.heap.size := HK.out.lt
      by_cases hpl : p < len
      · obtain ⟨b', off', op, hA, hx, _, hdr⟩ := bat_cell HV.out HL.out hpl
        have Hdr := Lib.hid hdr
        have hzl : z < len := by have := Hz.out; omega
        obtain ⟨j, rfl⟩ : ∃ j, gk = j + 1 := ⟨gk - 1, by omega⟩
        clear hx hdr hA
        go_wp2_with fail
        refine (ReadMac_any _ bs p z _ Hz.out ((HV.out.below HB.out (Nat.le_refl _)).more HB.out.size) HBs.out (by rw [HL.out]; exact hpl)).mono ?_
        rintro e w1 ⟨⟨mo, md, ma, mb, mn⟩, next, he, hb1, hm1⟩
        have he' : e = .returned (.tuple #[.agg #[.int .i64 mo, .int .i64 md, .int .i64 ma, .int .i64 mb, .int .i64 mn], .int .i64 next]) := he
        subst he'
        clear he
        have hz1 : wr.heap.size ≤ w1.heap.size := hb1.size
        have HO1 := Lib.hid (HO.out.below hb1 rfl)
        have HB1 := Lib.hid ((HB.out.trans (hb1.mono (by omega))).alloc (by omega) (.cells #[.int .i64 mo, .int .i64 md, .int .i64 ma, .int .i64 mb, .int .i64 mn] 39))
        have hk1 := (HK.out.below hb1 HK.out.lt).alloc (.cells #[.int .i64 mo, .int .i64 md, .int .i64 ma, .int .i64 mb, .int .i64 mn] 39)
        have HKw := Lib.hid hk1
        have hkm := Blk.new w1 39 #[.int .i64 mo, .int .i64 md, .int .i64 ma, .int .i64 mb, .int .i64 mn]
        have c0 := hkm.cell 0
        have c1' := hkm.cell 1
        have c2 := hkm.cell 2
        have c3 := hkm.cell 3
        have c4 := hkm.cell 4
        have k0 := hk1.cell 0
        have k1 := hk1.cell 1
        have g0 := hk1.frozen 0
        have g1 := hk1.frozen 1
        clear hb1 hk1 hkm
        cases hrd : readS (bs.drop p) with
        | none =>
          have hnx : next = -1 := by unfold RmEnd at hm1; rw [hrd] at hm1; exact hm1
          have HE : Hid (readL bs = ((1, z), [])) := Lib.hid (by
            unfold readL
            rw [if_neg (by rw [HL.out]; exact HBig.out), HD.out, decS_none _ _ (by rw [Hdr.out]; simp) hrd]
            simp only [preE, List.length_drop]
            rw [HL.out, Hz.out, show (len : Int) - ((len - p : Nat) : Int) = p by omega])
          subst hnx
          clear hm1 hrd
          go_wp2_with fail
          refine end_tmp_cell rfl rfl (HKw.out.set2 _ _) Tryz.underlying24 rfl (by kernel_rfl) rfl ⟨_, by rw [HE.out], ?_, (HB1.out.setCell (by simp) _).setCell (by simp) _⟩
          rw [HE.out]
          exact OwnMacs.nil _ _
        | some q =>
          obtain ⟨m', l'⟩ := q
          have hm2 : (⟨mo, md, ma, mb, mn⟩ : Mac) = m' ∧ next = (bs.length : Int) - l'.length := by unfold RmEnd at hm1; rw [hrd] at hm1; exact hm1
          obtain ⟨rfl, hnx⟩ := hm2
          have hbo : BytesOk (bs.drop p) := fun y hy => HBs.out y (List.mem_of_mem_drop hy)
          have hrl := readS_len hbo hrd
          have hsuf := suffix_drop (read_back _ _ _ hbo hrd).1 (by rw [HL.out]; exact hp)
          have hq : bs.length - l'.length ≤ len := by have := HL.out; omega
          have hql : p < bs.length - l'.length := by have := hrl.1; rw [List.length_drop] at this; have := HL.out; omega
          obtain ⟨q, hqq⟩ : ∃ q, bs.length - l'.length = q := ⟨_, rfl⟩
          rw [hqq] at hq hql hsuf
          have hnq : next = (q : Int) := by have := hsuf.2; omega
          have Hnq := Lib.hid hnq
          have hn0 : 0 ≤ next := by omega
          have HD1 : Hid (decS bs.length bs = preE (ms ++ [⟨mo, md, ma, mb, mn⟩]) (decS j (bs.drop q))) := Lib.hid (by rw [HD.out, decS_some j _ _ _ (by rw [Hdr.out]; simp) hrd, preE_pre, hsuf.1])
          clear hm1 hrd hnx hrl hsuf hqq hnq hbo
          go_wp2_with (at_builtin; refine app_one rfl _ _ 22 39 rfl (.agg #[.int .i64 0, .int .i64 0, .int .i64 0, .int .i64 0, .int .i64 0]) 5 40 Tryz.underlying22 infoMac rfl (by decide) (by decide) (w.heap.size + 1) u4 _ _ rfl (HO1.out.alloc _) _ [.int .i64 mo, .int .i64 md, .int .i64 ma, .int .i64 mb, .int .i64 mn] rfl rfl (cells_one ⟨mo, md, ma, mb, mn⟩) (by simp) (by have := HLe.out; omega) (by simp; omega) ?_; intro v4 w4 HA4)
          go_roundg j
          case measure => omega
          case rel =>
            refine ⟨ms ++ [⟨mo, md, ma, mb, mn⟩], q, next, rfl, Hnq, by rw [HL.out]; exact hq, by rw [HL.out]; omega, HD1, Lib.hid (OwnMacs.snoc (m := ⟨mo, md, ma, mb, mn⟩) HA4.out.own), Lib.hid (HA4.out.blk (HO1.out.alloc _) HKw.out (by decide)), Lib.hid (HB1.out.trans (HA4.out.below.mono (by omega))), Lib.hid ?_⟩
            have := HLe.out
            simp only [List.length_append, List.length_cons, List.length_nil]
            omega
      · have hnil : bs.drop p = [] := List.drop_eq_nil_of_le (by rw [HL.out]; omega)
        have HE : Hid (readL bs = if (checkS ms).1 = 0 then ((0, 0), ms) else (checkS ms, [])) := Lib.hid (by
          unfold readL
          rw [if_neg (by rw [HL.out]; exact HBig.out), HD.out, hnil, decS_nil]
          simp [preE])
        have hzl : (len : Int) ≤ z := by have := Hz.out; omega
        clear hnil
        go_wp2_with fail
        refine (MacCheck_any _ ms _ HO.out.macs).mono ?_
        rintro e w1 ⟨rfl, hb1⟩
        have hz1 : wr.heap.size ≤ w1.heap.size := hb1.size
        have HB1 := Lib.hid ((HB.out.trans (hb1.mono (by omega))).alloc (by omega) (.cells #[.int .i64 (checkS ms).1, .int .i64 (checkS ms).2] 24))
        have hk1 := (HK.out.below hb1 HK.out.lt).alloc (.cells #[.int .i64 (checkS ms).1, .int .i64 (checkS ms).2] 24)
        have HO1 := Lib.hid ((HO.out.below hb1 rfl).alloc (.cells #[.int .i64 (checkS ms).1, .int .i64 (checkS ms).2] 24))
        have hkn := Blk.new w1 24 #[.int .i64 (checkS ms).1, .int .i64 (checkS ms).2]
        have q0 := hkn.cell 0
        have q1 := hkn.cell 1
        have k0 := hk1.cell 0
        have k1 := hk1.cell 1
        have g0 := hk1.frozen 0
        have g1 := hk1.frozen 1
        have HK1 := Lib.hid hk1
        clear hb1 hk1 hkn
        by_cases hf : (checkS ms).1 = 0
        · have hf0 : ((checkS ms).1 != 0) = false := by simp [hf]
          rw [if_pos hf] at HE
          clear hf
          go_wp2_with fail
          refine end_tmp_cell rfl rfl (HK1.out.set2 _ _) Tryz.underlying24 rfl (by kernel_rfl) rfl ⟨_, by rw [HE.out], ?_, (HB1.out.setCell (by simp) _).setCell (by simp) _⟩
          rw [HE.out]
          exact OwnMacs.more (OwnMacs.set (o := 1) (OwnMacs.set (o := 0) HO1.out (by omega) _) (by omega) _) (by omega)
        · have hf0 : ((checkS ms).1 != 0) = true := by simp [hf]
          rw [if_neg hf] at HE
          clear hf
          go_wp2_with fail
          go_region
          all_goals
            go_wp2_with fail
            refine end_tmp_cell rfl rfl (HK1.out.set2 _ _) Tryz.underlying24 rfl (by kernel_rfl) rfl ⟨_, by rw [HE.out], ?_, below_drew ((HB1.out.setCell (by simp) _).setCell (by simp) _)⟩
            rw [HE.out]
            exact OwnMacs.nil _ _
end Go.Proofs.YtdldochhondifaaGreatDoor
