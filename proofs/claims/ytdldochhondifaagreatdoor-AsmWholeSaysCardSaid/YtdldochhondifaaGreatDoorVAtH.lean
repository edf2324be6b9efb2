/-
  Texts of the claim AsmWholeSays (AtH): what each proves stands at its theorems.
  Conditions: as the theorems say.
-/
import Derived.Test.YtdldochhondifaaGreatDoorVAtF
namespace Go.Proofs.YtdldochhondifaaGreatDoor
open Go.RowKit
attribute [local go_sem] Oper.semAt_some

section
variable {base bx : Nat} {nm : List UInt8} {st : PSt} {v : Pv}
theorem pline_any (nb : Bool) (s : List UInt8) (hs : s.length ≤ 900000) (hok : LineOk s) (w : World) (hM : Pie w base bx nm st v) (hbase : base ≤ w.heap.size) (hl : st.labs.length ≤ 1000000) (hl2 : st.code.length ≤ 1000000) :
    Calls Tryz.prog 29 #[.pointer (some ⟨bx, 0, none⟩), .string (mkS s), .bool nb] w (PLinePost w base bx nm v (lineP nb st s)) := by
  by_cases hc : s.getLast? = some 58
  · exact pline_label nb s (by omega) hc w hM hbase hl hl2
  · exact pline_ins nb s hs hok hc w hM hbase hl2
end
def PlaceTo (labs : List (Int × Nat)) (g : Int) (many : Nat) (i : Nat) (a : Nat) : Prop := a = (placeP (labs.take i) g).getD many
theorem PlaceTo.next {labs : List (Int × Nat)} {g : Int} {many i a : Nat} {x : Int × Nat} (h : PlaceTo labs g many i a) (hx : labs[i]? = some x) : PlaceTo labs g many (i + 1) (if x.1 = g then x.2 else a) := by
  unfold PlaceTo at h ⊢
  rw [List.take_add_one, hx]
  obtain ⟨l, p⟩ := x
  show _ = (placeP (labs.take i ++ [(l, p)]) g).getD many
  rw [place_snoc]
  by_cases e : l = g
  · rw [if_pos e, if_pos e]
    rfl
  · rw [if_neg e, if_neg e, h]
/-- How far the code has been settled. -/
def SettledTo (st : PSt) (k : Nat) (ms : List Mac) : Prop :=
  k ≤ st.code.length ∧ ms = (st.code.take k).map (setP st.labs) ++ (st.code.drop k).map (fun x => x.m) ∧ ∀ x ∈ st.code.take k, lostP st.labs st.code.length x = false
theorem SettledTo.zero (st : PSt) : SettledTo st 0 (st.code.map fun x => x.m) := ⟨Nat.zero_le _, by simp, by simp⟩
theorem SettledTo.done {st : PSt} {ms : List Mac} (h : SettledTo st st.code.length ms) : ms = settled st ∧ settleP st = none := by
  obtain ⟨_, h1, h2⟩ := h
  rw [List.take_length] at h1 h2
  rw [List.drop_eq_nil_of_le (Nat.le_refl _), List.map_nil, List.append_nil] at h1
  refine ⟨h1, ?_⟩
  unfold settleP
  rw [List.findIdx?_eq_none_iff]
  intro x hx
  exact h2 x hx
theorem SettledTo.len {st : PSt} {k : Nat} {ms : List Mac} (h : SettledTo st k ms) : ms.length = st.code.length := by
  rw [h.2.1, List.length_append, List.length_map, List.length_map, List.length_take, List.length_drop]
  have := h.1
  omega
theorem SettledTo.at_ {st : PSt} {k : Nat} {ms : List Mac} {x : Ins} (h : SettledTo st k ms) (hx : st.code[k]? = some x) : ms[k]? = some x.m := by
  have hk := (List.getElem?_eq_some_iff.1 hx).1
  rw [h.2.1, List.getElem?_append_right (by rw [List.length_map, List.length_take]; omega), List.getElem?_map, List.getElem?_drop, List.length_map, List.length_take, Nat.min_eq_left (by omega), Nat.sub_self, Nat.add_zero, hx]
  rfl
theorem SettledTo.fault {st : PSt} {k : Nat} {ms : List Mac} {x : Ins} (h : SettledTo st k ms) (hx : st.code[k]? = some x) (hl : lostP st.labs st.code.length x = true) : settleP st = some k := by
  have hk := (List.getElem?_eq_some_iff.1 hx)
  unfold settleP
  rw [List.findIdx?_eq_some_iff_getElem]
  refine ⟨hk.1, by rw [hk.2]; exact hl, fun j hj => ?_⟩
  have := h.2.2 (st.code[j]'(by have := hk.1; omega)) (by
    rw [List.mem_take_iff_getElem]
    exact ⟨j, by have := hk.1; omega, rfl⟩)
  simp [this]
theorem SettledTo.next {st : PSt} {k : Nat} {ms : List Mac} {x : Ins} (h : SettledTo st k ms) (hx : st.code[k]? = some x) (hl : lostP st.labs st.code.length x = false) : SettledTo st (k + 1) (ms.set k (setP st.labs x)) := by
  have hk := (List.getElem?_eq_some_iff.1 hx)
  have hk1 := hk.1
  refine ⟨hk.1, ?_, fun y hy => ?_⟩
  · have h2 : st.code.drop k = x :: st.code.drop (k + 1) := by rw [List.drop_eq_getElem_cons hk.1, hk.2]
    have h3 : st.code.take (k + 1) = st.code.take k ++ [x] := by rw [List.take_add_one, hx]; rfl
    rw [h.2.1, h2, h3, List.set_append_right _ _ (by rw [List.length_map, List.length_take]; omega), List.map_append, List.map_cons, List.length_map, List.length_take, Nat.min_eq_left (by omega), Nat.sub_self, List.set_cons_zero, List.append_assoc]
    rfl
  · rw [List.take_add_one, hx] at hy
    rcases List.mem_append.1 hy with hy | hy
    · exact h.2.2 y hy
    · simp at hy
      subst hy
      exact hl
theorem set_same {ms : List Mac} {k : Nat} {m : Mac} (h : ms[k]? = some m) : ms.set k m = ms := by
  obtain ⟨h1, h2⟩ := List.getElem?_eq_some_iff.1 h
  rw [← h2, List.set_getElem_self]
end Go.Proofs.YtdldochhondifaaGreatDoor
namespace Go.Proofs.YtdldochhondifaaGreatDoor
open Go.RowKit
attribute [local go_sem] Oper.semAt_some

/-- What settle leaves. -/
def PSettlePost (w : World) (base bx : Nat) (nm : List UInt8) (st : PSt) (v : Pv) (e : Ending) (w' : World) : Prop :=
  OutS (InV bx v) w w' ∧ (∀ i, settleP st = some i → e = .returned (.int .i64 (i : Int))) ∧
    (settleP st = none → e = .returned (.int .i64 (-1)) ∧ PieM w' base bx nm (pieRows (settled st) (labsI st.labs) (placesI st.labs) (st.code.map goalI) (st.code.map callI) v))
theorem lost_some {labs : List (Int × Nat)} {many : Nat} {x : Ins} {g : Int} (h : x.goal = some g) : lostP labs many x = decide (many ≤ (placeP labs g).getD many) := by
  unfold lostP
  rw [h]
  simp only
  cases placeP labs g with
  | none => simp
  | some a => rfl
section
variable {w : World} {base bx : Nat} {nm : List UInt8} {ms : List Mac} {labs places goals : List Int} {calls : List (List UInt8)} {v : Pv}
theorem row_int {r : List Int} {u : Value} (hr : w.ownsRow base 3 1 u r.length (r.map (Value.int .i64))) {i : Nat} {x : Int} (hi : r[i]? = some x) : ∃ b c, u = .slice (some ⟨b, 0, none⟩) r.length c ∧ w.cell? ⟨b, i, none⟩ = some (.int .i64 x) := by
  have hil := (List.getElem?_eq_some_iff.1 hi).1
  obtain ⟨b, c, hv, _⟩ := hr.form (by omega)
  rw [hv] at hr
  exact ⟨b, c, hv, (hr.cellAt i (by omega)).trans (by rw [List.getElem?_map, hi]; rfl)⟩
theorem pie_place (h : PieM w base bx nm (pieRows ms labs places goals calls v)) {i : Nat} {x : Int} (hi : places[i]? = some x) : ∃ b c, v.p = .slice (some ⟨b, 0, none⟩) places.length c ∧ w.cell? ⟨b, i, none⟩ = some (.int .i64 x) :=
  row_int (h.at_ (i := 2) rfl).1 hi
theorem pie_goal (h : PieM w base bx nm (pieRows ms labs places goals calls v)) {i : Nat} {x : Int} (hi : goals[i]? = some x) : ∃ b c, v.g = .slice (some ⟨b, 0, none⟩) goals.length c ∧ w.cell? ⟨b, i, none⟩ = some (.int .i64 x) :=
  row_int (h.at_ (i := 3) rfl).1 hi
theorem pie_setN (h : PieM w base bx nm (pieRows ms labs places goals calls v)) {cb c i : Nat} {m : Mac} (hv : v.c = .slice (some ⟨cb, 0, none⟩) ms.length c) (hm : ms[i]? = some m) (n : Int) :
    PieM (w.setCell ⟨cb, i * 5 + 4, none⟩ (.int .i64 n)) base bx nm (pieRows (ms.set i { m with n := n }) labs places goals calls v) ∧ OutS (InV bx v) w (w.setCell ⟨cb, i * 5 + 4, none⟩ (.int .i64 n)) := by
  obtain ⟨h1, h2⟩ := h.put (i := 0) (g := cb) (c := c) (r := rMacs v.c ms) rfl hv (i * 5 + 4) (.int .i64 n)
  have e : (⟨(rMacs v.c ms).e, (rMacs v.c ms).size, (rMacs v.c ms).v, (rMacs v.c ms).n, (rMacs v.c ms).xs.set (i * 5 + 4) (.int .i64 n)⟩ : Rw) = rMacs v.c (ms.set i { m with n := n }) := by
    unfold rMacs
    simp only
    rw [cells_setN ms i m n hm, List.length_set]
  rw [e] at h1
  exact ⟨h1, h2.wider fun k _ hk => inPie_iff.1 hk⟩
end
section
variable {base bx : Nat} {nm : List UInt8} {st : PSt} {v : Pv}
set_option maxRecDepth 100000 in
set_option maxHeartbeats 8000000 in
theorem psettle_any (w : World) (hM : Pie w base bx nm st v) (hl : st.labs.length ≤ 1000000) (hl2 : st.code.length ≤ 1000000) (hok : ∀ x ∈ st.code, ∀ g, x.goal = some g → 0 ≤ g) :
    Calls Tryz.prog 30 #[.pointer (some ⟨bx, 0, none⟩)] w (PSettlePost w base bx nm st v) := by
  obtain ⟨⟨cA, cc, hcv⟩, ⟨lA, lc, hlv⟩, ⟨pA, pc, hpv⟩, ⟨gA, gc, hgv⟩, _⟩ := pie_len hM
  obtain ⟨vc, vl, vp, vg, vk⟩ := v
  simp only [List.length_map, labsI, placesI] at hcv hlv hpv hgv
  subst hcv hlv hpv hgv
  obtain ⟨cn, hcn⟩ : ∃ cn, st.code.length = cn := ⟨_, rfl⟩
  obtain ⟨ln, hln⟩ : ∃ ln, st.labs.length = ln := ⟨_, rfl⟩
  have Hcn := Lib.hid hcn
  have Hln := Lib.hid hln
  rw [hcn, hln] at hM ⊢
  rw [hcn] at hl2
  rw [hln] at hl
  have HM : Hid (PieM w base bx nm (pieRows (st.code.map fun x => x.m) (labsI st.labs) (placesI st.labs) (st.code.map goalI) (st.code.map callI) ⟨.slice cA cn cc, .slice lA ln lc, .slice pA ln pc, .slice gA cn gc, vk⟩)) := Lib.hid hM
  have Hok := Lib.hid hok
  have H0 := Lib.hid (SettledTo.zero st)
  clear hM hcn hln hok
  go_enter Tryz.func30, Tryz.ntmps30
  go_wp2_with fail
  go_loopg [3] cn (fun gk iv wx => ∃ (i : Nat) (ms : List Mac), iv = .int .i64 (i : Int) ∧ i + gk = cn ∧ Hid (SettledTo st i ms) ∧ Hid (PieM wx base bx nm (pieRows ms (labsI st.labs) (placesI st.labs) (st.code.map goalI) (st.code.map callI) ⟨.slice cA cn cc, .slice lA ln lc, .slice pA ln pc, .slice gA cn gc, vk⟩) ∧ OutS (InV bx ⟨.slice cA cn cc, .slice lA ln lc, .slice pA ln pc, .slice gA cn gc, vk⟩) w wx))
  case atStart => exact ⟨0, _, rfl, by omega, H0, Lib.hid ⟨HM.out, OutS.refl _ _⟩⟩
  case round =>
    obtain ⟨i, ms, rfl, hi, HT, HMk⟩ := hrel
    rename World => wo
    clear H0
    have HBl : Hid (Blk wo bx 63 #[.string (mkS nm), .slice cA cn cc, .slice lA ln lc, .slice pA ln pc, .slice gA cn gc, vk]) := Lib.hid (PieM.blk HMk.out.1)
    have m1 : wo.cell? ⟨bx, 1, none⟩ = some (.slice cA cn cc) := HBl.out.cell 1
    rcases gk with _ | og
    · obtain rfl : i = cn := by omega
      have HD := Lib.hid (SettledTo.done (ms := ms) (by rw [Hcn.out]; exact HT.out))
      go_wp2_with fail
      go_ret
      refine ⟨HMk.out.2, fun i h => (by rw [HD.out.2] at h; cases h), fun _ => ⟨rfl, ?_⟩⟩
      rw [← HD.out.1]
      exact HMk.out.1
    · have hil : i < cn := by omega
      obtain ⟨x, hx⟩ : ∃ x, st.code[i]? = some x := ⟨st.code[i]'(by rw [Hcn.out]; exact hil), List.getElem?_eq_getElem _⟩
      obtain ⟨gb, gc', hge, hgc⟩ := pie_goal HMk.out.1 (i := i) (x := goalI x) (by rw [List.getElem?_map, hx]; rfl)
      obtain rfl : gA = some ⟨gb, 0, none⟩ := (Value.slice.inj hge).1
      have m4 : wo.cell? ⟨bx, 4, none⟩ = some (.slice (some ⟨gb, 0, none⟩) cn gc) := HBl.out.cell 4
      have k0 : (0 : Int) ≤ (i : Int) := Int.natCast_nonneg i
      have k1 : (i : Int) < (cn : Int) := by omega
      have Hx := Lib.hid hx
      clear hge
      cases hgo : x.goal with
      | none =>
        have hneg : goalI x = -1 := by unfold goalI; rw [hgo]; rfl
        have HNx : Hid (SettledTo st (i + 1) ms) := Lib.hid (by
          have h := HT.out.next hx (by unfold lostP; rw [hgo])
          rw [show setP st.labs x = x.m from by unfold setP; rw [hgo], set_same (HT.out.at_ hx)] at h
          exact h)
        rw [hneg] at hgc
        clear hx hgo hneg
        go_wp2_with fail
        go_roundg og
        case measure => omega
        case rel => exact ⟨i + 1, ms, by go_num, by omega, HNx, HMk⟩
      | some g =>
        have hpos : goalI x = g := by unfold goalI; rw [hgo]; rfl
        have hg0 := Hok.out x (List.mem_of_getElem? hx) g hgo
        have Hgo := Lib.hid hgo
        rw [hpos] at hgc
        have hgn : ¬ g < 0 := by omega
        have HP0 : Hid (PlaceTo st.labs g cn 0 cn) := Lib.hid rfl
        have Hgc := Lib.hid hgc
        have HBl4 := Lib.hid m4
        clear hx hgo hpos
        go_wp2_with fail
        clear m1 m4 hgc
        go_loopg [4, 5] ln (fun gk av jv wx => ∃ j a : Nat, av = .int .i64 (a : Int) ∧ jv = .int .i64 (j : Int) ∧ j + gk = ln ∧ Hid (PlaceTo st.labs g cn j a) ∧ Hid (OutS (fun _ => False) wo wx))
        case atStart => exact ⟨0, cn, rfl, rfl, by omega, HP0, Lib.hid (OutS.refl _ _)⟩
        case round =>
          obtain ⟨j, a, rfl, rfl, hj, HPl, HOj⟩ := hrel
          clear HP0
          have HMr : Hid (PieM wr base bx nm (pieRows ms (labsI st.labs) (placesI st.labs) (st.code.map goalI) (st.code.map callI) ⟨.slice cA cn cc, .slice lA ln lc, .slice pA ln pc, .slice (some ⟨gb, 0, none⟩) cn gc, vk⟩) ∧ OutS (InV bx ⟨.slice cA cn cc, .slice lA ln lc, .slice pA ln pc, .slice (some ⟨gb, 0, none⟩) cn gc, vk⟩) w wr) := Lib.hid ⟨HMk.out.1.out HOj.out fun _ _ h => h, HMk.out.2.trans HOj.out fun _ _ h => h.elim⟩
          have HBr : Hid (Blk wr bx 63 #[.string (mkS nm), .slice cA cn cc, .slice lA ln lc, .slice pA ln pc, .slice (some ⟨gb, 0, none⟩) cn gc, vk]) := Lib.hid (PieM.blk HMr.out.1)
          have m1 : wr.cell? ⟨bx, 1, none⟩ = some (.slice cA cn cc) := HBr.out.cell 1
          have m2 : wr.cell? ⟨bx, 2, none⟩ = some (.slice lA ln lc) := HBr.out.cell 2
          have m3 : wr.cell? ⟨bx, 3, none⟩ = some (.slice pA ln pc) := HBr.out.cell 3
          have m4 : wr.cell? ⟨bx, 4, none⟩ = some (.slice (some ⟨gb, 0, none⟩) cn gc) := HBr.out.cell 4
          rcases gk with _ | gk
          · obtain rfl : j = ln := by omega
            have HPe : Hid (a = (placeP st.labs g).getD cn) := Lib.hid (by
              have h := HPl.out
              unfold PlaceTo at h
              rw [List.take_of_length_le (by rw [Hln.out]; exact Nat.le_refl _)] at h
              exact h)
            have HLo : Hid (lostP st.labs cn x = decide (cn ≤ a)) := Lib.hid (by rw [lost_some Hgo.out, HPe.out])
            by_cases hca : cn ≤ a
            · have HF : Hid (settleP st = some i) := Lib.hid (HT.out.fault Hx.out (by rw [Hcn.out, HLo.out]; exact decide_eq_true hca))
              have hca' : (a : Int) ≥ (cn : Int) := by omega
              have hca2 : (cn : Int) ≤ (a : Int) := by omega
              clear hca m3 m4
              go_wp2_with fail
              go_ret
              exact ⟨HMr.out.2, fun j h => (by rw [HF.out] at h; cases h; rfl), fun h => (by rw [HF.out] at h; cases h)⟩
            · have hpl : placeP st.labs g = some a := by
                have h := HPe.out
                cases hp : placeP st.labs g with
                | none => rw [hp] at h; exact absurd (Nat.le_of_eq h.symm) hca
                | some q => rw [hp] at h; rw [show a = q from h]
              have HNx : Hid (SettledTo st (i + 1) (ms.set i { x.m with n := (a : Int) })) := Lib.hid (by
                have h := HT.out.next Hx.out (by rw [Hcn.out, HLo.out]; exact decide_eq_false hca)
                rw [show setP st.labs x = { x.m with n := (a : Int) } from by unfold setP; rw [Hgo.out]; simp only; rw [hpl]; rfl] at h
                exact h)
              have hca' : ¬ (a : Int) ≥ (cn : Int) := by omega
              have hca2 : ¬ (cn : Int) ≤ (a : Int) := by omega
              have hmm := HT.out.at_ Hx.out
              have Hml : Hid (ms.length = cn) := Lib.hid (by rw [HT.out.len, Hcn.out])
              obtain ⟨cb, c5, hce, ⟨u, hcu⟩, hcf⟩ := macs_form (show OwnMacs wr base (.slice cA cn cc) ms from (HMr.out.1.at_ (i := 0) rfl).1) hmm
              obtain rfl : cA = some ⟨cb, 0, none⟩ := (Value.slice.inj hce).1
              obtain ⟨r1, r2⟩ := pie_setN HMr.out.1 (cb := cb) (c := cc) (by rw [Hml.out]) hmm (a : Int)
              have HR := Lib.hid (And.intro r1 (HMr.out.2.trans r2 fun _ _ h => h))
              clear hca hpl hmm hce r1 r2 m3 m4
              go_wp2_with fail
              go_roundg og
              case measure => omega
              case rel => exact ⟨i + 1, _, by go_num, by omega, HNx, HR⟩
          · have hjl : j < ln := by omega
            obtain ⟨y, hy⟩ : ∃ y, st.labs[j]? = some y := ⟨st.labs[j]'(by rw [Hln.out]; exact hjl), List.getElem?_eq_getElem _⟩
            obtain ⟨lb, l5, hle, hlc⟩ := pie_lab HMr.out.1 (i := j) (x := y.1) (by unfold labsI; rw [List.getElem?_map, hy]; rfl)
            obtain ⟨pb, p5, hpe, hpc⟩ := pie_place HMr.out.1 (i := j) (x := (y.2 : Int)) (by unfold placesI; rw [List.getElem?_map, hy]; rfl)
            obtain rfl : lA = some ⟨lb, 0, none⟩ := (Value.slice.inj hle).1
            obtain rfl : pA = some ⟨pb, 0, none⟩ := (Value.slice.inj hpe).1
            have hgc : wr.cell? ⟨gb, i, none⟩ = some (.int .i64 g) := by
              have h := pie_goal HMr.out.1 (i := i) (x := g) (by rw [List.getElem?_map, Hx.out]; show some (goalI x) = _; unfold goalI; rw [Hgo.out]; rfl)
              obtain ⟨g5, g6, h1, h2⟩ := h
              injection h1 with h1
              injection h1 with h1
              injection h1 with h1
              rw [h1]
              exact h2
            have HPn := Lib.hid (HPl.out.next hy)
            have j0 : (0 : Int) ≤ (j : Int) := Int.natCast_nonneg j
            have j1 : (j : Int) < (ln : Int) := by omega
            have HOd : Hid (OutS (fun _ => False) wo wr.drew) := Lib.hid ⟨HOj.out.os, HOj.out.tape, HOj.out.output, HOj.out.size, HOj.out.block⟩
            clear hy hle hpe
            go_upto_region 9 with fail
            go_still_tail 14, (by kernel_rfl)
            change wpList _ _ _ _ _ wr.drew
            have n1 : wr.drew.cell? ⟨bx, 3, none⟩ = some (.slice (some ⟨pb, 0, none⟩) ln pc) := m3
            have n2 : wr.drew.cell? ⟨pb, j, none⟩ = some (.int .i64 (y.2 : Int)) := hpc
            clear m1 m2 m3 m4 hlc hpc hgc
            generalize wr.drew = W9 at *
            by_cases he : y.1 = g
            · rw [if_pos he] at HPn
              have heb : (y.1 == g) = true := beq_iff_eq.2 he
              clear he
              go_wp2_with fail
              go_roundg gk
              case measure => omega
              case rel => exact ⟨j + 1, y.2, rfl, by go_num, by omega, HPn, HOd⟩
            · rw [if_neg he] at HPn
              have heb : (y.1 == g) = false := beq_false_of_ne he
              clear he
              go_wp2_with fail
              go_roundg gk
              case measure => omega
              case rel => exact ⟨j + 1, a, rfl, by go_num, by omega, HPn, HOd⟩
end
end Go.Proofs.YtdldochhondifaaGreatDoor
