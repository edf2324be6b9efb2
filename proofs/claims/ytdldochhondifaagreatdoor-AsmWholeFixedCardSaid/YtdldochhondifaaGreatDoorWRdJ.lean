/-
  Texts of the claim AsmWholeFixed (RdF RdH RdJ): what each proves stands at its theorems.
  Conditions: as the theorems say.
-/
import Derived.Deep.QuietTactic
import Derived.BigQuiet
import Derived.Test.YtdldochhondifaaGreatDoorWRdK
import Derived.Test.YtdldochhondifaaGreatDoorWKtC
namespace Go.Proofs.YtdldochhondifaaGreatDoor
open Go.RowKit

/-- What a function that tells instructions comes to. -/
def MacsPost (w : World) (f : Int × Int) (ms : List Mac) (e : Ending) (w' : World) : Prop :=
  ∃ v, e = .returned (.tuple #[v, .agg #[.int .i64 f.1, .int .i64 f.2]]) ∧ OwnMacs w' w.heap.size v ms ∧ Below w.heap.size w w'
theorem MacsAt.set {w : World} {B : Nat} {v : Value} {ms : List Mac} (h : MacsAt w B v ms) {p : Addr} (hp : B ≤ p.block) (u : Value) : MacsAt (w.setCell p u) B v ms :=
  h.below ((Below.refl B w).setCell hp u) (Nat.le_refl _)
theorem OwnMacs.set {w : World} {base : Nat} {v : Value} {ms : List Mac} (h : OwnMacs w base v ms) {b o : Nat} (hb : b < base) (u : Value) : OwnMacs (w.setCell ⟨b, o, none⟩ u) base v ms :=
  ownsRow_setCell_below (a := ⟨b, o, none⟩) h hb u
theorem OwnMacs.only {w w' : World} {base g : Nat} {v : Value} {ms : List Mac} (h : OwnMacs w base v ms) (hg : w.grownBy w' (some g)) (hb : g < base) : OwnMacs w' base v ms := by
  refine World.ownsRow.kept h hg ?_
  cases hv : v.ownBlock with
  | none => exact .inl rfl
  | some k => exact .inr fun e => by cases e; have := own_block_ge h _ hv; omega
theorem OwnMacs.more {w : World} {base base' : Nat} {v : Value} {ms : List Mac} (h : OwnMacs w base v ms) (hb : base' ≤ base) : OwnMacs w base' v ms := by
  obtain ⟨h1, h2⟩ := h
  refine ⟨h1, ?_⟩
  rcases h2 with h2 | ⟨g, cap, cur, e, hg, h3⟩
  · exact .inl h2
  · exact .inr ⟨g, cap, cur, e, by omega, h3⟩
theorem readS_len {l l' : List Int} {m : Mac} (hb : BytesOk l) (h : readS l = some (m, l')) : l'.length < l.length ∧ BytesOk l' := by
  obtain ⟨e, _⟩ := read_back l m l' hb h
  have := codeS_pos m
  subst e
  refine ⟨by simp; omega, fun x hx => hb x (by simp [hx])⟩
/-- The loop that reads: ms are read, left is left, in at most gk rounds. -/
def readRel (bs : List Int) (w : World) (g gr : Nat) (gk : Nat) (lv : Value) (wr : World) : Prop :=
  ∃ (ms : List Mac) (left : List Int), left.length ≤ gk ∧ Hid (decS bs.length bs = preE ms (decS gk left)) ∧ Hid (OwnMacs wr (g + 1) lv ms) ∧ Hid (RdAt wr g w.heap.size left false) ∧ Hid (BytesOk left) ∧
    Hid (Blk wr gr 24 #[.int .i64 0, .int .i64 0]) ∧ Hid (Below w.heap.size w wr) ∧ Hid (ms.length + left.length ≤ bs.length)

set_option maxRecDepth 100000 in
set_option maxHeartbeats 4000000 in
theorem Read_any (v : Value) (bs : List Int) (w : World) (hv : BAt w w.heap.size v bs) (hbs : BytesOk bs) (ht : Tab w) :
    Calls Tryz.prog 46 #[v] w (MacsPost w (readL bs).1 (readL bs).2) := by
  have HV := Lib.hid hv
  have HBs := Lib.hid hbs
  have HT := Lib.hid ht
  obtain ⟨A, c, hvv, hlc, h63, _⟩ := hv
  subst hvv
  obtain ⟨len, hlen⟩ : ∃ len, bs.length = len := ⟨_, rfl⟩
  have HL := Lib.hid hlen
  rw [hlen] at hlc HV ⊢
  have h0 := ht.1
  clear hlen hbs ht
  by_cases hbig : 70000 < len
  · have HE : Hid (readL bs = ((2, 0), [])) := Lib.hid (by unfold readL; rw [if_pos (by rw [HL.out]; exact hbig)])
    go_enter Tryz.func46, Tryz.ntmps46
    go_wp2_with fail
    refine end_tmp_cell rfl rfl (Blk.new _ _ _) Tryz.underlying24 rfl (by kernel_rfl) rfl ⟨_, by rw [HE.out], ?_, (Below.refl _ _).alloc (Nat.le_refl _) _⟩
    rw [HE.out]
    exact OwnMacs.nil _ _
  · have HBig := Lib.hid hbig
    have hA : Below w.heap.size w (w.alloc (.cells #[.int .i64 0, .int .i64 0] 24)) := (Below.refl _ _).alloc (Nat.le_refl _) _
    have HW0 : Hid (Below w.heap.size w ((w.alloc (.cells #[.int .i64 0, .int .i64 0] 24)).alloc (.cells #[.slice A len c, .bool false] 142))) := Lib.hid (hA.alloc (by simp) _)
    have HK0 : Hid (Blk ((w.alloc (.cells #[.int .i64 0, .int .i64 0] 24)).alloc (.cells #[.slice A len c, .bool false] 142)) w.heap.size 24 #[.int .i64 0, .int .i64 0]) := Lib.hid ((Blk.new w _ _).alloc _)
    have HR0 : Hid (RdAt ((w.alloc (.cells #[.int .i64 0, .int .i64 0] 24)).alloc (.cells #[.slice A len c, .bool false] 142)) (w.heap.size + 1) w.heap.size bs false) := Lib.hid ⟨_, by have := Blk.new (w.alloc (.cells #[.int .i64 0, .int .i64 0] 24)) 142 #[.slice A len c, .bool false]; simpa using this, HV.out.below HW0.out (Nat.le_refl _)⟩
    have hs0 : ((w.alloc (.cells #[.int .i64 0, .int .i64 0] 24)).alloc (.cells #[.slice A len c, .bool false] 142)).heap.size = w.heap.size + 2 := by simp
    clear hA
    go_enter Tryz.func46, Tryz.ntmps46
    go_wp2_with fail
    generalize (w.alloc (.cells #[.int .i64 0, .int .i64 0] 24)).alloc (.cells #[.slice A len c, .bool false] 142) = W at *
    go_loopg [4] len (readRel bs w (w.heap.size + 1) w.heap.size)
    case atStart => exact ⟨[], bs, by rw [HL.out]; exact Nat.le_refl _, Lib.hid (by rw [preE_nil, HL.out]), Lib.hid (OwnMacs.nil _ _), HR0, HBs, HK0, HW0, Lib.hid (by simp)⟩
    case round =>
      obtain ⟨ms, left, hk, HD, HO, HR, HBy, HK, HB, HLe⟩ := hrel
      clear HW0 HK0 HR0 hs0
      have hzw : w.heap.size + 1 < wr.heap.size := by obtain ⟨_, hb, _⟩ := HR.out; exact hb.lt
      cases left with
      | nil =>
        have HE : Hid (readL bs = if (checkS ms).1 = 0 then ((0, 0), ms) else (checkS ms, [])) := Lib.hid (by
          unfold readL
          rw [if_neg (by rw [HL.out]; exact HBig.out), HD.out, decS_nil]
          simp [preE])
        obtain ⟨vr, hblk, A1, c1, hv1, _, _, _⟩ := HR.out
        subst hv1
        have r0 := hblk.cell 0
        have f0 := hblk.frozen 0
        clear hblk
        simp only [List.length_nil] at r0
        go_wp2_with fail
        refine (Check_any _ ms _ HO.out.macs (HT.out.own HB.out)).mono ?_
        rintro e w1 ⟨rfl, hb1⟩
        have hz1 : wr.heap.size ≤ w1.heap.size := hb1.size
        have HB1 := Lib.hid ((HB.out.trans (hb1.mono (by omega))).alloc (by omega) (.cells #[.int .i64 (checkS ms).1, .int .i64 (checkS ms).2] 24))
        have hk1 := (HK.out.below hb1 HK.out.lt).alloc (.cells #[.int .i64 (checkS ms).1, .int .i64 (checkS ms).2] 24)
        have HO1 := Lib.hid ((HO.out.below hb1 rfl).alloc (.cells #[.int .i64 (checkS ms).1, .int .i64 (checkS ms).2] 24))
        have hkn := Blk.new w1 24 #[.int .i64 (checkS ms).1, .int .i64 (checkS ms).2]
        have q0 := hkn.cell 0
        have q1 := hkn.cell 1
        have k0 := hk1.cell 0
        have k1 := hk1.cell 1
        have g0 := hk1.frozen 0
        have g1 := hk1.frozen 1
        have HK1 := Lib.hid hk1
        clear hb1 hk1 hkn r0 f0
        by_cases hf : (checkS ms).1 = 0
        · have hf0 : ((checkS ms).1 != 0) = false := by simp [hf]
          rw [if_pos hf] at HE
          clear hf
          go_wp2_with fail
          refine end_tmp_cell rfl rfl (HK1.out.set2 _ _) Tryz.underlying24 rfl (by kernel_rfl) rfl ⟨_, by rw [HE.out], ?_, (HB1.out.setCell (by simp) _).setCell (by simp) _⟩
          rw [HE.out]
          exact OwnMacs.more (OwnMacs.set (o := 1) (OwnMacs.set (o := 0) HO1.out (by omega) _) (by omega) _) (by omega)
        · have hf0 : ((checkS ms).1 != 0) = true := by simp [hf]
          rw [if_neg hf] at HE
          clear hf
          go_wp2_with fail
          go_region
          all_goals
            go_wp2_with fail
            refine end_tmp_cell rfl rfl (HK1.out.set2 _ _) Tryz.underlying24 rfl (by kernel_rfl) rfl ⟨_, by rw [HE.out], ?_, below_drew ((HB1.out.setCell (by simp) _).setCell (by simp) _)⟩
            rw [HE.out]
            exact OwnMacs.nil _ _
      | cons op l =>
        obtain ⟨j, rfl⟩ : ∃ j, gk = j + 1 := ⟨gk - 1, by simp at hk; omega⟩
        obtain ⟨vr, hblk, A1, c1, hv1, _, _, _⟩ := HR.out
        subst hv1
        have r0 := hblk.cell 0
        have f0 := hblk.frozen 0
        clear hblk
        obtain ⟨n1, hn1⟩ : ∃ n1, (op :: l).length = n1 := ⟨_, rfl⟩
        have hn0 : 0 < n1 := by rw [← hn1]; simp
        have hnl : n1 ≤ len := by have := HLe.out; have := HL.out; omega
        have HN1 := Lib.hid hn1
        rw [hn1] at r0 hk
        clear hn1
        go_wp2_with fail
        refine (mac_reads (w.heap.size + 1) w.heap.size op l _ HR.out (by omega) HBy.out (HT.out.own HB.out) (by omega)).mono ?_
        rintro e w1 ⟨⟨mo, md, ma, mb, mn⟩, rest, bad, he, hr1, hm1, hg1⟩
        have he' : e = .returned (.agg #[.int .i64 mo, .int .i64 md, .int .i64 ma, .int .i64 mb, .int .i64 mn]) := he
        subst he'
        clear he
        have hz1 : wr.heap.size ≤ w1.heap.size := hg1.size
        have HO1 := Lib.hid (HO.out.only hg1 (by omega))
        have HB1 := Lib.hid ((HB.out.trans ((only_below hg1 (by omega)).mono (by omega))).alloc (by omega) (.cells #[.int .i64 mo, .int .i64 md, .int .i64 ma, .int .i64 mb, .int .i64 mn] 39))
        have hk1 := (only_row hg1 HK.out (by omega)).alloc (.cells #[.int .i64 mo, .int .i64 md, .int .i64 ma, .int .i64 mb, .int .i64 mn] 39)
        have hr2 := hr1.alloc (by omega) (.cells #[.int .i64 mo, .int .i64 md, .int .i64 ma, .int .i64 mb, .int .i64 mn] 39)
        have HR2 := Lib.hid hr2
        have HM1 := Lib.hid hm1
        have HKw := Lib.hid hk1
        obtain ⟨vq, hblk, hvq⟩ := hr2
        have b1 := hblk.cell 1
        have hkm := Blk.new w1 39 #[.int .i64 mo, .int .i64 md, .int .i64 ma, .int .i64 mb, .int .i64 mn]
        have c0 := hkm.cell 0
        have c1' := hkm.cell 1
        have c2 := hkm.cell 2
        have c3 := hkm.cell 3
        have c4 := hkm.cell 4
        have k0 := hk1.cell 0
        have k1 := hk1.cell 1
        have g0 := hk1.frozen 0
        have g1 := hk1.frozen 1
        clear hg1 hr1 hm1 r0 f0 hk1 hblk hvq hkm
        cases hrd : readS (op :: l) with
        | none =>
          have hbad : bad = true := by have := HM1.out; unfold MacEnd at this; rw [hrd] at this; exact this
          have HE : Hid (readL bs = ((1, (len : Int) - (n1 : Int)), [])) := Lib.hid (by
            unfold readL
            rw [if_neg (by rw [HL.out]; exact HBig.out), HD.out, decS_none _ _ (by simp) hrd]
            simp only [preE]
            rw [HN1.out, HL.out])
          subst hbad
          clear hrd
          go_wp2_with fail
          refine end_tmp_cell rfl rfl (HKw.out.set2 _ _) Tryz.underlying24 rfl (by kernel_rfl) rfl ⟨_, by rw [HE.out], ?_, (HB1.out.setCell (by simp) _).setCell (by simp) _⟩
          rw [HE.out]
          exact OwnMacs.nil _ _
        | some p =>
          obtain ⟨m', l'⟩ := p
          have hm2 : (⟨mo, md, ma, mb, mn⟩ : Mac) = m' ∧ rest = l' ∧ bad = false := by have := HM1.out; unfold MacEnd at this; rw [hrd] at this; exact this
          obtain ⟨rfl, rfl, rfl⟩ := hm2
          have Hrd := Lib.hid hrd
          have hrl := readS_len HBy.out hrd
          clear hrd
          go_wp2_with (at_builtin; refine app_one rfl _ _ 22 39 rfl (.agg #[.int .i64 0, .int .i64 0, .int .i64 0, .int .i64 0, .int .i64 0]) 5 40 Tryz.underlying22 infoMac rfl (by decide) (by decide) (w.heap.size + 1 + 1) u4 _ _ rfl (HO1.out.alloc _) _ [.int .i64 mo, .int .i64 md, .int .i64 ma, .int .i64 mb, .int .i64 mn] rfl rfl (cells_one ⟨mo, md, ma, mb, mn⟩) (by simp) (by have := HLe.out; have := HL.out; omega) (by simp; omega) ?_; intro v4 w4 HA4)
          go_roundg j
          case measure => omega
          case rel =>
            refine ⟨ms ++ [⟨mo, md, ma, mb, mn⟩], rest, by have := HN1.out; have := hrl.1; omega, Lib.hid ?_, Lib.hid (OwnMacs.snoc (m := ⟨mo, md, ma, mb, mn⟩) HA4.out.own), Lib.hid ?_, Lib.hid hrl.2, Lib.hid (HA4.out.blk (HO1.out.alloc _) HKw.out (by decide)), Lib.hid (HB1.out.trans (HA4.out.below.mono (by omega))), Lib.hid ?_⟩
            · rw [HD.out, decS_some j _ _ _ (by simp) Hrd.out, preE_pre]
            · obtain ⟨v, hb, hv⟩ := HR2.out
              exact ⟨v, HA4.out.blk (HO1.out.alloc _) hb (by decide), hv.below HA4.out.below (by omega)⟩
            · have := HLe.out
              have := hrl.1
              simp only [List.length_append, List.length_cons, List.length_nil] at *
              omega
end Go.Proofs.YtdldochhondifaaGreatDoor
namespace Go.Proofs.YtdldochhondifaaGreatDoor
open Go.RowKit

/-- What reading a number from a place on comes to. -/
def RnEnd (bs : List Int) (at' : Nat) (k : Nat) (next : Int) : Prop :=
  match rnS 0 (bs.drop at') with
  | some (n, l) => k = n ∧ next = (bs.length : Int) - l.length
  | none => next = -1
theorem RnEnd.none {bs : List Int} {at' k : Nat} (h : rnS 0 (bs.drop at') = none) : RnEnd bs at' k (-1) := by unfold RnEnd; rw [h]
theorem RnEnd.some {bs : List Int} {at' k j : Nat} (h : rnS 0 (bs.drop at') = some (k, bs.drop j)) (hj : j ≤ bs.length) : RnEnd bs at' k j := by
  unfold RnEnd
  rw [h]
  refine ⟨rfl, ?_⟩
  simp only [List.length_drop]
  omega
end Go.Proofs.YtdldochhondifaaGreatDoor
namespace Go.Proofs.YtdldochhondifaaGreatDoor
open Go.RowKit

/-- The end of a function whose first result lies in a cell. -/
theorem end_cell_tmp {P : Program} {fn : Func} {R : Ending → World → Prop} {a : Act} {w : World} {q p : Tmp} {ty t : TypeId} {g : Nat} {cs : Array Value} {d : TypeDesc} (h : fn.results = #[.cell p ty, .tmp q])
    (hp : a.tmps.getD p undef = .pointer (some ⟨g, 0, none⟩)) (hb : Blk w g t cs) (hu : P.underlying ty = some d) (hd : (match d with | .struct _ | .array _ _ => true | _ => false) = true)
    (hi : (P.info? ty).map (·.size) = some cs.size) (hdf : a.defers = []) (hR : R (.returned (.tuple #[.agg cs, a.tmps.getD q undef])) w) : bodyPost P fn R .ret a w := by
  refine bodyPost_ret (v := .tuple #[.agg cs, a.tmps.getD q undef]) ?_ hdf hR
  have hp' : a.tmps[p]?.getD undef = .pointer (some ⟨g, 0, none⟩) := by simpa using hp
  simp [results, h, hp', asAddr, run_loadVar_row w g t ty cs (0, 0) d hb hu hd hi]

/-- What reading an instruction from a place on comes to. -/
def RmEnd (bs : List Int) (at' : Nat) (m : Mac) (next : Int) : Prop :=
  match readS (bs.drop at') with
  | some (m', l) => m = m' ∧ next = (bs.length : Int) - l.length
  | none => next = -1
theorem RmEnd.noop {bs l : List Int} {at' : Nat} {op : Int} {m : Mac} (hd : bs.drop at' = op :: l) (h : isOp op = false) : RmEnd bs at' m (-1) := by
  unfold RmEnd
  rw [hd, readS_cons, h]
  rfl
theorem RmEnd.regs {bs l rs : List Int} {at' j : Nat} {op : Int} (hd : bs.drop at' = op :: l) (ho : isOp op = true) (hk : shK op = 0) (h : rregS (manyS op) l = some (rs, bs.drop j)) (hj : j ≤ bs.length) : RmEnd bs at' (putRegs op rs 0) j := by
  unfold RmEnd
  rw [hd, readS_cons, if_pos ho, h]
  simp only
  rw [if_pos hk]
  refine ⟨rfl, ?_⟩
  simp only [List.length_drop]
  omega
theorem RmEnd.num {bs l rs l' : List Int} {at' j n : Nat} {op : Int} (hd : bs.drop at' = op :: l) (ho : isOp op = true) (hk : shK op ≠ 0) (h : rregS (manyS op) l = some (rs, bs.drop j)) (hn : rnS 0 (bs.drop j) = some (n, l')) : RmEnd bs at' (putRegs op rs (unfoldS n)) ((bs.length : Int) - l'.length) := by
  unfold RmEnd
  rw [hd, readS_cons, if_pos ho, h]
  simp only
  rw [if_neg hk, hn]
  exact ⟨rfl, rfl⟩
theorem RegNow.empty {k : Nat} {bs dn : List Int} (h : RegNow k bs dn [] false) (hk : dn.length < k) : rregS k bs = none := by
  rcases (by omega : k - dn.length = 1 ∨ 2 ≤ k - dn.length) with h1 | h1
  · rcases h.one h1 with ⟨_, e⟩ | ⟨e, _⟩
    · exact e
    · simp at e
  · rcases h.two h1 with ⟨_, e⟩ | ⟨e, _⟩
    · exact e
    · simp at e
theorem RegNow.over {k : Nat} {bs dn l : List Int} {x : Int} (h : RegNow k bs dn (x :: l) false) (hk : k - dn.length = 1) (hx : 15 < x) : rregS k bs = none := by
  rcases h.one hk with ⟨_, e⟩ | ⟨e, _⟩
  · exact e
  · simp at e; omega
theorem RegNow.done {k : Nat} {bs dn left : List Int} (h : RegNow k bs dn left false) (hk : k = dn.length) : rregS k bs = some (dn, left) := by
  rcases h.none_left (by omega) with ⟨e, _⟩ | ⟨_, e⟩
  · cases e
  · exact e
end Go.Proofs.YtdldochhondifaaGreatDoor
namespace Go.Proofs.YtdldochhondifaaGreatDoor
open Go.RowKit

theorem OwnInts.bcell {w w' : World} {base B : Nat} {v : Value} {xs : List Int} (h : OwnInts w base v xs) (hb : Below B w w') (hB : B = w.heap.size) : OwnInts w' base v xs := h.below hb hB
theorem getD_some {rs : List Int} {k : Nat} (h : k < rs.length) : rs[k]? = some (rs.getD k 0) := by
  rw [List.getD_eq_getElem?_getD, List.getElem?_eq_getElem h]
  rfl
end Go.Proofs.YtdldochhondifaaGreatDoor
namespace Go.Proofs.YtdldochhondifaaGreatDoor
open Go.RowKit

end Go.Proofs.YtdldochhondifaaGreatDoor
