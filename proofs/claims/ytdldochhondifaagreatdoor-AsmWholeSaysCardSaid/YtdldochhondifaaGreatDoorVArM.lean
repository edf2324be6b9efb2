/-
  Texts of the claim AsmWholeSays (ArL ArM): what each proves stands at its theorems.
  Conditions: as the theorems say.
-/
import Derived.Test.YtdldochhondifaaGreatDoorVArJ
namespace Go.Proofs.YtdldochhondifaaGreatDoor
open Go.RowKit
attribute [local go_sem] Oper.semAt_some

theorem suffix_one (s : List UInt8) (c : UInt8) : Lib.hasSuffix s [c] = decide (s.getLast? = some c) ∧ Lib.trimSuffix s [c] = if s.getLast? = some c then s.dropLast else s := by
  have h : Lib.hasSuffix s [c] = decide (s.getLast? = some c) := by
    unfold Lib.hasSuffix
    rw [Bool.eq_iff_iff, List.isSuffixOf_iff_suffix, decide_eq_true_iff]
    constructor
    · rintro ⟨t, rfl⟩
      simp
    · intro h
      obtain ⟨l, rfl⟩ := List.getLast?_eq_some_iff.1 h
      exact List.suffix_append _ _
  refine ⟨h, ?_⟩
  unfold Lib.trimSuffix
  rw [h]
  by_cases h1 : s.getLast? = some c
  · rw [if_pos h1, if_pos (by simpa using h1), List.dropLast_eq_take]
    rfl
  · rw [if_neg h1, if_neg (by simpa using h1)]
theorem CutSuffix_any (s : List UInt8) (hs : s.length ≤ 9223372036854775807) (c : UInt8) (w : World) :
    Calls Tryz.prog 56 #[.string (mkS s), .string ⟨#[c]⟩] w fun e w' => e = .returned (.tuple #[.string (mkS (if s.getLast? = some c then s.dropLast else s)), .bool (decide (s.getLast? = some c))]) ∧ w = w' := by
  refine (Tryz.strings_CutSuffix (mkS s) ⟨#[c]⟩ w (by rw [mkS_size]; exact hs)).mono ?_
  rintro e w' ⟨rfl, rfl⟩
  rw [mkS_list, show (⟨#[c]⟩ : ByteArray).data.toList = [c] from rfl, (suffix_one s c).1, (suffix_one s c).2]
  exact ⟨rfl, rfl⟩
theorem split_data (t : List UInt8) (c : UInt8) : (Lib.splitB ⟨#[c]⟩ 0 (Lib.countB (mkS t) ⟨#[c]⟩) (mkS t)).map Value.string = (splitC c [] t).map fun l => Value.string (mkS l) := by
  have h := Lib.splitB_data ⟨#[c]⟩ 0 (Lib.countB (mkS t) ⟨#[c]⟩) (mkS t)
  have hk : Lib.countB (mkS t) ⟨#[c]⟩ = t.count c := by
    have := Lib.count_one c t
    unfold Lib.countB
    rw [mkS_list]
    exact this
  rw [mkS_list, show (⟨#[c]⟩ : ByteArray).data.toList = [c] from rfl, split_one c _ t (by rw [hk]; exact Nat.le_refl _)] at h
  rw [← h, List.map_map]
  refine List.map_congr_left fun x _ => ?_
  show Value.string x = Value.string (mkS x.data.toList)
  rw [mkS_back]
theorem Split_any (t : List UInt8) (c : UInt8) (ht : t.length < 4294967281) (w : World) (hS : Std w) :
    Calls Tryz.prog 61 #[.string (mkS t), .string ⟨#[c]⟩] w fun e w' => TextsPost w.heap.size (splitC c [] t) e w' ∧ Below w.heap.size w w' := by
  obtain ⟨m, hm⟩ := hS.len
  refine (Tryz.strings_Split (mkS t) ⟨#[c]⟩ m w (by rw [mkS_size]; exact ht) hm (Nat.le_refl 1)).mono ?_
  rintro e w' ⟨rfl, rfl⟩
  have hd := split_data t c
  have hl := congrArg List.length hd
  rw [List.length_map, List.length_map, Lib.splitB_all ⟨#[c]⟩ (Nat.le_refl 1) 0 _ _ rfl] at hl
  have hlen := splitC_len c t []
  refine ⟨⟨_, rfl, ?_⟩, (Below.refl _ _).alloc (Nat.le_refl _) _⟩
  rw [hd, hl]
  unfold OwnS
  refine ⟨by rw [List.length_map, Nat.mul_one], .inr ⟨w.heap.size, _, _, rfl, Nat.le_refl _, heap_alloc_new w _, Nat.le_refl _, by unfold maxLen; omega, by simp, by rw [Nat.mul_one, List.take_of_length_le (by simp)]⟩⟩
theorem IndexBlank_any (t : List UInt8) (w : World) :
    Calls Tryz.prog 59 #[.string (mkS t), .func (.func 55) #[] #[]] w fun e w' => e = .returned (.int .i64 (if t.dropWhile (fun c => !bl c) = [] then -1 else ((wordP t).length : Int))) ∧ Below w.heap.size w w' := by
  refine (Tryz.strings_IndexFunc 55 #[] blank_enter blR (mkS t) w (blank_pred w)).mono ?_
  rintro e w' ⟨rfl, hb⟩
  refine ⟨?_, hb⟩
  have h := index_bl (mkS t) (mkS t).size 0 (by rw [mkS_list, mkS_size]; omega) (by omega)
  rw [mkS_list, List.drop_zero, Nat.zero_add] at h
  unfold Lib.idxFunc
  rw [h]
  rfl
theorem TrimLeft_any (t : List UInt8) (w : World) :
    Calls Tryz.prog 60 #[.string (mkS t), .func (.func 55) #[] #[]] w fun e w' => e = .returned (.string (mkS (t.dropWhile bl))) ∧ Below w.heap.size w w' := by
  refine (Tryz.strings_TrimLeftFunc 55 #[] blank_enter blR (mkS t) w (blank_pred w)).mono ?_
  rintro e w' ⟨rfl, hb⟩
  refine ⟨?_, hb⟩
  rw [← mkS_back (Lib.trimLeftF blR (mkS t)), trimLeft_bl, mkS_list]
/-- A word's first place among texts. -/
theorem idx_at (x : List UInt8) : ∀ (zs : List (List UInt8)) (i : Nat), Lib.idxFromS (zs.map mkS) (mkS x) i = match zs.findIdx? (fun y => decide (y = x)) with
    | some k => ((i + k : Nat) : Int)
    | none => -1
  | [], i => rfl
  | z :: zs, i => by
    rw [List.map_cons, Lib.idxFromS, List.findIdx?_cons]
    by_cases h : z = x
    · subst h
      simp
    · have h1 : ¬ mkS z = mkS x := fun e => h (mkS_inj e)
      have ih := idx_at x zs (i + 1)
      rw [if_neg (by simpa using h1), ih]
      simp only [h, decide_false, Bool.false_eq_true, if_false]
      cases zs.findIdx? (fun y => decide (y = x)) with
      | none => rfl
      | some k => simp only [Option.map_some]; congr 1; omega
theorem IndexWord_any (x : List UInt8) (w : World) (hW : Wrd w) :
    Calls Tryz.prog 62 #[.slice (some ⟨0, 0, none⟩) 48 48, .string (mkS x)] w fun e w' => e = .returned (.int .i64 (wordAt x)) ∧ w = w' := by
  refine (Tryz.slices_Index_string 0 0 48 48 (wordTab.map mkS) (mkS x) w (by decide) (by decide) (fun j hj => ?_)).mono ?_
  · rw [List.length_map] at hj
    have h := hW.2 j (wordTab[j]'hj) (List.getElem?_eq_getElem hj)
    rw [List.getD_eq_getElem?_getD, List.getElem?_map, List.getElem?_eq_getElem hj]
    rw [Nat.zero_add]
    exact h
  · rintro e w' ⟨rfl, rfl⟩
    refine ⟨?_, rfl⟩
    have h := idx_at x wordTab 0
    rw [List.take_of_length_le (by decide)]
    unfold Lib.idxOfS
    rw [h]
    unfold wordAt
    cases wordTab.findIdx? (fun y => decide (y = x)) with
    | none => rfl
    | some k => simp only [Nat.zero_add]
end Go.Proofs.YtdldochhondifaaGreatDoor
namespace Go.Proofs.YtdldochhondifaaGreatDoor
open Go.RowKit
attribute [local go_sem] Oper.semAt_some

/-- What a line leaves. -/
def LinePost (w : World) (base bx : Nat) (nm : List UInt8) (cv : Value) (lb : Nat) (gv kv : Value) (r : Int × PSt) (e : Ending) (w' : World) : Prop :=
  e = .returned (.int .i64 r.1) ∧ OutS (InSec bx lb cv gv kv) w w' ∧ (r.1 = 0 → ∃ cv' gv' kv', Sec w' base bx nm r.2 cv' lb gv' kv' ∧ ∀ k, InSec bx lb cv' gv' kv' k → InSec bx lb cv gv kv k ∨ w.heap.size ≤ k)
theorem zeroInt (w : World) : (zeroValue 3).run Tryz.prog w = .ok (.int .i64 0) w := by kernel_rfl
theorem digI_i64 {s : List UInt8} {k : Nat} {n : Int} (h : digI s k = some n) : I64 n := by
  unfold digI at h
  split at h
  · cases hn : numI s with
    | none => rw [hn] at h; cases h
    | some m =>
      rw [hn] at h
      simp only at h
      split at h
      · cases h
        exact (numI_some.1 hn).1
      · cases h
  · cases h
section
variable {base bx lb : Nat} {nm : List UInt8} {st : PSt} {cv gv kv : Value}
set_option maxRecDepth 100000 in
set_option maxHeartbeats 4000000 in
theorem line_label (nb : Bool) (s : List UInt8) (hs : s.length ≤ 1000000) (hc : s.getLast? = some 58) (w : World) (hS : Std w) (hM : Sec w base bx nm st cv lb gv kv) (hbase : base ≤ w.heap.size) (hl : st.labs.length ≤ 1000000) (hl2 : st.code.length ≤ 1000000) :
    Calls Tryz.prog 25 #[.pointer (some ⟨bx, 0, none⟩), .string (mkS s), .bool nb] w (LinePost w base bx nm cv lb gv kv (lineP nb st s)) := by
  obtain ⟨rest, isB, hrl, HLab, hC⟩ := label_cut s.dropLast (by rw [List.length_dropLast]; omega) w
  have HC := Lib.hid hC
  have hx := CutSuffix_any s (by omega) 58 w
  rw [if_pos hc, decide_eq_true hc] at hx
  have HX := Lib.hid hx
  have HD0 := Lib.hid (digits_any rest 4 hrl w hS.errs hS.pow)
  rw [show ((4 : Nat) : Int) = 4 from rfl] at HD0
  have HM := Lib.hid hM
  have HS := Lib.hid hS
  have HL : Hid (lineP nb st s = match labI s.dropLast with
    | none => (1, st)
    | some n => if (st.labs.any fun x => x.1 == n) = true then (7, st) else (0, ⟨st.code, st.labs ++ [(n, st.code.length)]⟩)) := Lib.hid (by unfold lineP; rw [if_pos hc]; rfl)
  have HB := Lib.hid hbase
  have Hll := Lib.hid hl
  clear hC hx hM hS hbase hc hl
  go_enter Tryz.func25, Tryz.ntmps25
  go_wp2_with fail
  refine HX.out.mono ?_
  rintro e w0 ⟨rfl, rfl⟩
  go_wp2_with fail
  refine HC.out.mono ?_
  rintro e w1 ⟨rfl, rfl⟩
  go_wp2_with fail
  refine HD0.out.mono ?_
  rintro e W1 ⟨⟨n, ok, hn, rfl, hd⟩, hb⟩
  have HD := Lib.hid hd
  have HB1 := Lib.hid hb
  clear hd hb HD0 HC HX
  cases isB with
  | false =>
    have H1 : Hid (lineP nb st s = (1, st)) := Lib.hid (by rw [HL.out, HLab.out]; rfl)
    go_wp2_with fail
    go_ret
    rw [H1.out]
    exact ⟨rfl, outS_of HB1.out, fun h => by cases h⟩
  | true =>
    cases ok with
    | false =>
      have H1 : Hid (lineP nb st s = (1, st)) := Lib.hid (by rw [HL.out, HLab.out, if_pos rfl, HD.out]; rfl)
      go_wp2_with fail
      go_ret
      rw [H1.out]
      exact ⟨rfl, outS_of HB1.out, fun h => by cases h⟩
    | true =>
      have HE : Hid (lineP nb st s = if (st.labs.any fun x => x.1 == n) = true then (7, st) else (0, ⟨st.code, st.labs ++ [(n, st.code.length)]⟩)) := Lib.hid (by rw [HL.out, HLab.out, if_pos rfl, HD.out]; rfl)
      have HM1 := Lib.hid (SecM.below HM.out HB1.out)
      obtain ⟨D, dn, hown, hdn, hD⟩ := HM1.out.map
      have hkey := intKey (wf_of hn)
      have hat := (hD n (wf_of hn)).1
      rw [place_any] at hat
      have m2 := HM1.out.blk.cell 2
      have HOwn := Lib.hid hown
      have HDD := Lib.hid hD
      have HAt := Lib.hid hat
      have Hdn := Lib.hid hdn
      have Hn := Lib.hid hn
      clear hown hD hat hdn hn
      cases hany : st.labs.any fun x => x.1 == n with
      | true =>
        have H1 : Hid (lineP nb st s = (7, st)) := Lib.hid (by rw [HE.out, if_pos hany])
        have hat : Maps.has D (.int .i64 n) = true := HAt.out.trans hany
        clear hany
        go_wp2_with (at_lookup; refine wpList_lookup_own_ok_int _ rfl _ _ 53 rfl 3 3 .i64 intKeyed Tryz.underlying53 Tryz.underlying3 (zeroInt _) lb dn D rfl HOwn.out _ _ rfl hkey ?_; intro c hat2 hwc)
        go_ret
        rw [H1.out]
        exact ⟨rfl, outS_of HB1.out, fun h => by cases h⟩
      | false =>
        have H1 : Hid (lineP nb st s = (0, ⟨st.code, st.labs ++ [(n, st.code.length)]⟩)) := Lib.hid (by rw [HE.out, if_neg (by rw [hany]; simp)])
        have hat : Maps.has D (.int .i64 n) = false := HAt.out.trans hany
        obtain ⟨cA, cc, hcv⟩ := row_form HM1.out.code
        obtain ⟨cn, hcn⟩ : ∃ cn, (st.code.map fun x => x.m).length = cn := ⟨_, rfl⟩
        have hcl : st.code.length = cn := by rw [← hcn, List.length_map]
        have m1 := HM1.out.blk.cell 1
        have Hcv := Lib.hid hcv
        rw [hcv, hcn] at m1
        have Hcl := Lib.hid hcl
        have hcm : cn ≤ 1000000 := by omega
        clear hany hcv hcn hcl
        go_wp2_with (at_lookup; refine wpList_lookup_own_ok_int _ rfl _ _ 53 rfl 3 3 .i64 intKeyed Tryz.underlying53 Tryz.underlying3 (zeroInt _) lb dn D rfl HOwn.out _ _ rfl hkey ?_; intro c hat2 hwc)
        clear hat hat2 hwc
        go_still_tail 10, (by kernel_rfl)
        have HOw2 : Hid (W1.drew.ownsMap Tryz.prog 3 (plainElem (H := Unit) Tryz.prog 3) lb dn D) := Lib.hid (by
          obtain ⟨es, clock, q1, q2⟩ := HOwn.out
          exact ⟨es, clock, q1, q2⟩)
        go_wp2_with (at_mapUpdate; refine wpList_mapUpdate_in _ rfl _ _ _ 53 rfl 3 3 intKeyed Tryz.underlying53 (plainElem Tryz.prog 3) lb dn D rfl HOw2.out (by have := Hdn.out; have := Hll.out; unfold maxLen; omega) _ _ (.int .i64 n) rfl rfl hkey (.lit (.int .i64 (cn : Int))) [] (plainElem_int Tryz.underlying3 (WalkArith.wf_i64 ⟨by omega, by omega⟩)) ?_; intro w2 hown2 hturn)
        go_ret
        rw [H1.out]
        have hlm : LabMap w2 lb (st.labs ++ [(n, cn)]) := LabMap.put Hdn.out HDD.out HOw2.out.isMap hown2
        rw [← Hcl.out] at hlm
        have hM2 : SecM W1.drew base bx nm (st.code.map fun x => x.m) st.labs (goalsOf st.code) (callsOf st.code) cv lb gv kv := HM1.out.stay fun _ _ => rfl
        obtain ⟨q1, q2⟩ := hM2.addLab hlm hturn
        refine ⟨rfl, (outS_of HB1.out).trans q2.drewn fun _ _ h => h, fun _ => ⟨cv, gv, kv, q1, fun k hk => .inl hk⟩⟩
end
end Go.Proofs.YtdldochhondifaaGreatDoor
namespace Go.Proofs.YtdldochhondifaaGreatDoor
open Go.RowKit
attribute [local go_sem] Oper.semAt_some

theorem line_take (nb : Bool) (st : PSt) (s : List UInt8) (hc : ¬ s.getLast? = some 58) (hs : LineOk s) :
    (wordAt (wordP s) = -1 ∧ lineP nb st s = (1, st)) ∨ ∃ op : Int, wordAt (wordP s) = op ∧ ((1 ≤ op ∧ op ≤ 18) ∨ (33 ≤ op ∧ op ≤ 47)) ∧ isOp (pickP op (cutsL (tailP s))) = true ∧
      lineP nb st s = match takeP nb (pickP op (cutsL (tailP s))) (cutsL (tailP s)) with
        | none => (1, st)
        | some x => (0, ⟨st.code ++ [x], st.labs⟩) := by
  rcases opP_cases (wordP s) (cutsL (tailP s)) (word_ne hs) with ⟨h1, h2⟩ | ⟨op, h1, h2, _, h4, h5⟩
  · exact .inl ⟨h1, by unfold lineP; rw [if_neg hc, h2]⟩
  · refine .inr ⟨op, h1, h2, h4, ?_⟩
    unfold lineP takeP
    rw [if_neg hc, h5]
    by_cases hl : (cutsL (tailP s)).length = (ordL (pickP op (cutsL (tailP s)))).length
    · rw [if_pos hl, if_pos hl]
      rfl
    · rw [if_neg hl, if_neg hl]
theorem below_class {W w : World} (h : Below W.heap.size W w) {w' : World} (hb : Below w.heap.size w w') : Below W.heap.size W w' := h.trans (hb.mono h.size)
theorem tail_nil {s : List UInt8} (h : s.dropWhile (fun c => !bl c) = []) : wordP s = s ∧ tailP s = [] := by
  have e : s.takeWhile (fun c => !bl c) ++ s.dropWhile (fun c => !bl c) = s := List.takeWhile_append_dropWhile
  rw [h, List.append_nil] at e
  exact ⟨e, by unfold tailP; rw [h]; rfl⟩
theorem word_parts (s : List UInt8) : s = wordP s ++ s.dropWhile (fun c => !bl c) := (List.takeWhile_append_dropWhile).symm
theorem goals_len (code : List Ins) : (goalsOf code).length ≤ code.length := by
  unfold goalsOf
  have h := List.length_filterMap_le (fun x : Ins × Nat => x.1.goal.map fun g => (x.2, Lib.itoa g)) code.zipIdx
  rwa [List.length_zipIdx] at h
theorem calls_len (code : List Ins) : (callsOf code).length ≤ code.length := by
  unfold callsOf
  have h := List.length_filterMap_le (fun x : Ins × Nat => x.1.call.map fun g => (x.2, g)) code.zipIdx
  rwa [List.length_zipIdx] at h
theorem sec_snoc {w : World} {base bx lb : Nat} {nm : List UInt8} {st : PSt} {cv gv kv : Value} {x : Ins}
    (h : SecM w base bx nm ((st.code.map fun x => x.m) ++ [x.m]) st.labs (goalsOf st.code ++ goalOf (st.code.map fun x => x.m).length x) (callsOf st.code ++ callOf (st.code.map fun x => x.m).length x) cv lb gv kv) : Sec w base bx nm ⟨st.code ++ [x], st.labs⟩ cv lb gv kv := by
  unfold Sec
  rw [List.length_map] at h
  simp only
  rw [List.map_append, goals_snoc, calls_snoc]
  exact h
section
variable {base bx lb : Nat} {nm : List UInt8} {st : PSt} {cv gv kv : Value}
set_option maxRecDepth 100000 in
set_option maxHeartbeats 8000000 in
theorem line_ins (nb : Bool) (s : List UInt8) (hs : s.length ≤ 900000) (hok : LineOk s) (hc : ¬ s.getLast? = some 58) (w : World) (hS : Std w) (hM : Sec w base bx nm st cv lb gv kv) (hbase : base ≤ w.heap.size) (hl2 : st.code.length ≤ 1000000) :
    Calls Tryz.prog 25 #[.pointer (some ⟨bx, 0, none⟩), .string (mkS s), .bool nb] w (LinePost w base bx nm cv lb gv kv (lineP nb st s)) := by
  have hx := CutSuffix_any s (by omega) 58 w
  rw [if_neg hc, decide_eq_false hc] at hx
  have HX := Lib.hid hx
  have HI := Lib.hid (IndexBlank_any s w)
  have HM := Lib.hid hM
  have HS := Lib.hid hS
  have HB := Lib.hid hbase
  have HT := Lib.hid (line_take nb st s hc hok)
  have Hok := Lib.hid hok
  have Hl2 := Lib.hid hl2
  clear hx hM hS hbase hc hok hl2
  go_enter Tryz.func25, Tryz.ntmps25
  go_wp2_with fail
  refine HX.out.mono ?_
  rintro e w0 ⟨rfl, rfl⟩
  go_wp2_with fail
  refine HI.out.mono ?_
  rintro e W1 ⟨rfl, hb1⟩
  have HB1 := Lib.hid hb1
  clear hb1 HX HI
  obtain ⟨iv, hiv⟩ : ∃ iv : Int, (if s.dropWhile (fun c => !bl c) = [] then -1 else ((wordP s).length : Int)) = iv := ⟨_, rfl⟩
  have Hiv := Lib.hid hiv
  rw [hiv]
  clear hiv
  go_upto_if 68 with fail
  go_cut [13, 14] (fun u13 u14 wx => u13 = .string (mkS (wordP s)) ∧ u14 = .string (mkS (tailP s)) ∧ Hid (Below w.heap.size w wx))
  case first =>
    by_cases hd : s.dropWhile (fun c => !bl c) = []
    · obtain ⟨h1, h2⟩ := tail_nil hd
      have hi : ¬ iv ≥ 0 := by rw [← Hiv.out, if_pos hd]; omega
      have H1 := Lib.hid h1
      have H2 := Lib.hid h2
      clear hd h1 h2
      go_wp2_with fail
      go_meet
      exact ⟨by rw [H1.out], by rw [H2.out]; rfl, HB1⟩
    · obtain ⟨wn, hwn⟩ : ∃ wn, (wordP s).length = wn := ⟨_, rfl⟩
      have hi : iv = (wn : Int) := by rw [← Hiv.out, if_neg hd, hwn]
      subst hi
      have hwl : wn ≤ s.length := by rw [← hwn]; exact (List.takeWhile_prefix _).length_le
      have hz : (mkS s).size = s.length := mkS_size s
      have hx1 : (mkS s).extract 0 wn = mkS (wordP s) := by
        conv => lhs; rw [word_parts s]
        exact cut_front _ _ wn hwn.symm
      have hx2 : (mkS s).extract wn s.length = mkS (s.dropWhile fun c => !bl c) := by
        have h := cut_back (wordP s) (s.dropWhile fun c => !bl c) wn s.length hwn.symm (by rw [← word_parts s])
        rw [← word_parts s] at h
        exact h
      have hi0 : (0 : Int) ≤ (wn : Int) := Int.natCast_nonneg wn
      have hi1 : (wn : Int) ≤ (s.length : Int) := by omega
      clear hd hwn
      go_wp2_with fail
      refine wp_region_lex (fun _ w => Below W1.heap.size W1 w) (by kernel_rfl) (by kernel_rfl) ⟨rfl, rfl, rfl, Nat.le_refl _, fun _ _ => rfl⟩ ?_
      iterate 6
        apply wpLex_step
        · rfl
        · intro L w' hC hL hd
          clear hd
          have HC := Lib.hid hC
          clear hC
          go_simp
          exact ⟨HC.out, rfl⟩
        simp only [Act.put, List.setIfInBounds_toArray, List.set_cons_succ, List.set_cons_zero, Nat.reduceAdd]
      apply wpLex_step
      · rfl
      · intro L w' hC hL hd
        clear hd
        have HC := Lib.hid hC
        clear hC
        have HTr := Lib.hid (TrimLeft_any (s.dropWhile fun c => !bl c) w')
        go_simp
        refine HTr.out.mono ?_
        rintro e W4 ⟨rfl, hb⟩
        exact ⟨rfl, below_class HC.out hb⟩
      simp only [Act.put, List.setIfInBounds_toArray, List.set_cons_succ, List.set_cons_zero, Nat.reduceAdd]
      iterate 2
        apply wpLex_step
        · rfl
        · intro L w' hC hL hd
          clear hd
          have HC := Lib.hid hC
          clear hC
          go_simp
          exact ⟨HC.out, rfl⟩
        simp only [Act.put, List.setIfInBounds_toArray, List.set_cons_succ, List.set_cons_zero, Nat.reduceAdd]
      apply wpLex_nil
      intro L w' hC hd
      have HC := Lib.hid hC
      clear hC hd
      go_wp2_with fail
      go_meet
      exact ⟨rfl, rfl, Lib.hid (HB1.out.trans (HC.out.mono HB1.out.size))⟩
  case rest =>
    obtain ⟨rfl, rfl, HB2⟩ := hcut
    obtain ⟨tl, htl⟩ : ∃ tl, tailP s = tl := ⟨_, rfl⟩
    have Htl := Lib.hid htl
    rw [htl] at HT ⊢
    have htn : tl.length ≤ 900000 := by
      rw [← htl]
      have h1 := (List.dropWhile_suffix (fun c => !bl c) (l := s)).length_le
      have h2 := (List.dropWhile_suffix bl (l := s.dropWhile fun c => !bl c)).length_le
      unfold tailP
      omega
    clear htl
    go_upto_if 77 with fail
    go_cut [16] (fun u16 wx => Hid (OwnS wx w.heap.size u16 (cutsL tl)) ∧ Hid (Below w.heap.size w wx))
    case first =>
      by_cases ht : tl = []
      · subst ht
        have Q1 : Hid ((!(mkS []).toList.isEmpty) = false) := Lib.hid (by rw [mkS_toList]; rfl)
        go_wp2_with fail
        · exact absurd (Q1.out.symm.trans (by assumption : (!(mkS []).toList.isEmpty) = true)) (by simp)
        go_meet
        exact ⟨Lib.hid (OwnS.nil _ _), HB2⟩
      · have Q1 : Hid ((!(mkS tl).toList.isEmpty) = true) := Lib.hid (by rw [mkS_toList]; cases tl with | nil => exact absurd rfl ht | cons a l => rfl)
        have HSp := Lib.hid (Split_any tl 44 (by omega) wc (HS.out.own HB2.out))
        have HCut : Hid (cutsL tl = (splitC 44 [] tl).map trimS) := Lib.hid (by unfold cutsL; rw [if_neg ht])
        obtain ⟨ps, hps⟩ : ∃ ps, splitC 44 [] tl = ps := ⟨_, rfl⟩
        have hsz : ∀ x ∈ ps, x.length ≤ 1000000 := fun x hx => by
          rw [← hps] at hx
          have := splitC_size 44 tl [] x hx
          simp at this
          omega
        have Hsz := Lib.hid hsz
        have hpl : ps.length ≤ 1000001 := by rw [← hps]; have := splitC_len 44 tl []; omega
        rw [hps] at HSp HCut
        obtain ⟨n, hn⟩ : ∃ n, ps.length = n := ⟨_, rfl⟩
        rw [hn] at hpl
        have Hn := Lib.hid hn
        clear ht hps hsz hn
        go_wp2_with fail
        rotate_left
        · rename_i h
          exact absurd (Q1.out.symm.trans h) (by simp)
        refine HSp.out.mono ?_
        rintro e W5 ⟨⟨v, rfl, hv⟩, hb⟩
        obtain ⟨vA, vc, hve⟩ := hv.len
        have HV := Lib.hid hv
        have HB5 := Lib.hid (HB2.out.trans (hb.mono HB2.out.size))
        rw [Hn.out] at hve
        subst hve
        clear hv hb Q1 HSp
        go_wp2_with fail
        go_loopg [16, 81] n (fun gk pv iv wx => ∃ i : Nat, iv = .int .i64 (i : Int) ∧ i + gk = n ∧ Hid (OwnS wx W5.heap.size pv ((ps.take i).map trimS)) ∧ Hid (Below W5.heap.size W5 wx))
        case atStart => exact ⟨0, rfl, by omega, Lib.hid (OwnS.nil _ _), Lib.hid (Below.refl _ _)⟩
        case round =>
          obtain ⟨i, rfl, hi, HO, HBr⟩ := hrel
          rcases gk with _ | gk
          · obtain rfl : i = n := by omega
            have HF : Hid (OwnS wr w.heap.size u16 (cutsL tl)) := Lib.hid (by
              have h := HO.out.more HB5.out.size
              rw [List.take_of_length_le (by rw [Hn.out]; exact Nat.le_refl _), ← HCut.out] at h
              exact h)
            have HBf : Hid (Below w.heap.size w wr) := Lib.hid (HB5.out.trans (HBr.out.mono HB5.out.size))
            go_wp2_with fail
            go_meet
            exact ⟨HF, HBf⟩
          · have hin : i < n := by omega
            obtain ⟨x, hx⟩ : ∃ x, ps[i]? = some x := ⟨ps[i]'(by rw [Hn.out]; exact hin), List.getElem?_eq_getElem _⟩
            obtain ⟨b0, c0, e0, hbb, hb0, hcell⟩ := HV.out.at_ hx
            have e1 : vA = some ⟨b0, 0, none⟩ := (Value.slice.inj e0).1
            subst e1
            have p0 : wr.cell? ⟨b0, i, none⟩ = some (.string (mkS x)) := (bcell HBr.out hb0).trans hcell
            have HTr := Lib.hid (Trim_any x (by have := Hsz.out x (List.mem_of_getElem? hx); omega) wr (HS.out.own (HB5.out.trans (HBr.out.mono HB5.out.size))))
            have HTk : Hid ((ps.take (i + 1)).map trimS = (ps.take i).map trimS ++ [trimS x]) := Lib.hid (by
              rw [List.take_add_one, hx, List.map_append]
              rfl)
            have i0 : (0 : Int) ≤ (i : Int) := Int.natCast_nonneg i
            have i1 : (i : Int) < (n : Int) := by omega
            clear hx e0 hbb hb0 hcell
            go_wp2_with fail
            refine HTr.out.mono ?_
            rintro e W6 ⟨rfl, hb⟩
            have HO6 := Lib.hid (HO.out.below hb)
            have HB6 := Lib.hid (HBr.out.trans (hb.mono HBr.out.size))
            have HBz := Lib.hid HB6.out.size
            clear hb p0 HTr
            go_wp2_with (at_builtin; refine app_one rfl _ _ 36 9 rfl (.string ⟨#[]⟩) 1 16 Tryz.underlying36 infoStr rfl (by decide) (by decide) W5.heap.size _ _ _ (by rfl) HO6.out _ [.string (mkS (trimS x))] (by rfl) rfl (fun x hx => by simp at hx; subst hx; rfl) rfl (by rw [List.length_map, List.length_take]; omega) HBz.out ?_; intro p1 W7 HA)
            have HO7 : Hid (OwnS W7 W5.heap.size p1 ((ps.take (i + 1)).map trimS)) := Lib.hid (by rw [HTk.out]; exact OwnS.snoc HA.out.own)
            have HB7 := Lib.hid (HB6.out.trans HA.out.below)
            clear HA
            go_roundg gk
            case measure => omega
            case rel => exact ⟨i + 1, by go_num, by omega, HO7, HB7⟩
    case rest =>
      obtain ⟨HP, HB3⟩ := hcut
      obtain ⟨p, hp⟩ : ∃ p, cutsL tl = p := ⟨_, rfl⟩
      have hpn : p.length ≤ 900001 ∧ ∀ x ∈ p, x.length ≤ 1000000 := by
        rw [← hp]
        unfold cutsL
        split
        · exact ⟨by simp, by simp⟩
        · refine ⟨by rw [List.length_map]; have := splitC_len 44 tl []; omega, fun x hx => ?_⟩
          obtain ⟨y, hy, rfl⟩ := List.mem_map.1 hx
          have h1 := splitC_size 44 tl [] y hy
          have h2 := trim_len y
          simp at h1
          omega
      have Hpn := Lib.hid hpn
      rw [hp] at HP HT
      clear hp hpn
      obtain ⟨wd, hwd⟩ : ∃ wd, wordP s = wd := ⟨_, rfl⟩
      have hwn : wd ≠ [] := by rw [← hwd]; exact word_ne Hok.out
      rw [hwd] at HT ⊢
      have HS3 := Lib.hid (HS.out.own HB3.out)
      have HIw := Lib.hid (IndexWord_any wd wc HS3.out.wrd)
      have q1 : (mkS wd).toList.isEmpty = false := by rw [mkS_toList]; cases wd with | nil => exact absurd rfl hwn | cons a l => rfl
      have q2 : ¬ (mkS wd).toList = [] := by rw [mkS_toList]; exact hwn
      have q3 : ((mkS wd).toList == []) = false := by rw [mkS_toList]; cases wd with | nil => exact absurd rfl hwn | cons a l => rfl
      clear hwd hwn
      go_wp2_with fail
      refine HIw.out.mono ?_
      rintro e w3 ⟨rfl, rfl⟩
      rcases HT.out with ⟨h1, h2⟩ | ⟨op, h1, h2, h3, h4⟩
      · have H2 := Lib.hid h2
        rw [h1]
        clear h1 h2
        go_wp2_with fail
        go_ret
        rw [H2.out]
        exact ⟨rfl, outS_of HB3.out, fun h => by cases h⟩
      · have H4 := Lib.hid h4
        rw [h1]
        have hop0 : ¬ op < 0 := by omega
        have hop1 : op ≤ 47 := by omega
        obtain ⟨pA, pc, hpe⟩ := HP.out.len
        obtain ⟨pn, hpn2⟩ : ∃ pn, p.length = pn := ⟨_, rfl⟩
        rw [hpn2] at hpe
        subst hpe
        obtain ⟨pk, hpk⟩ : ∃ pk, pickP op p = pk := ⟨_, rfl⟩
        have hpm : pn ≤ 900001 := by rw [← hpn2]; exact Hpn.out.1
        rw [hpk] at h3 H4
        have Hpn2 := Lib.hid hpn2
        have Hpk : Hid (pickP op p = pk ∧ isOp pk = true) := Lib.hid ⟨hpk, h3⟩
        have HWi := Lib.hid (Within_any op 5 18 wc)
        clear h1 h2 h3 h4 hpn2 hpk
        by_cases hr : 5 ≤ op ∧ op ≤ 18
        · have hd : decide (5 ≤ op ∧ op ≤ 18) = true := decide_eq_true hr
          by_cases h3 : pn = 3
          · subst h3
            obtain ⟨y, hy⟩ : ∃ y, p[2]? = some y := ⟨p[2]'(by rw [Hpn2.out]; omega), List.getElem?_eq_getElem _⟩
            have hyl := Hpn.out.2 y (List.mem_of_getElem? hy)
            have hyd : p.getD 2 [] = y := by rw [List.getD_eq_getElem?_getD, hy]; rfl
            obtain ⟨b0, c0, e0, hbb, hb0, hcell⟩ := HP.out.at_ hy
            have e1 : pA = some ⟨b0, 0, none⟩ := (Value.slice.inj e0).1
            subst e1
            have p0 := hcell
            have HRg := Lib.hid (register_any y (by omega) wc HS3.out.errs HS3.out.pow)
            have Hyd := Lib.hid hyd
            have Hr := Lib.hid hr
            clear e0 hbb hb0 hcell hy hyd hd
            obtain ⟨h5, h18⟩ := hr
            go_wp2_with fail
            refine HWi.out.mono ?_
            rintro e w4 ⟨rfl, rfl⟩
            go_wp2_with fail
            refine HRg.out.mono ?_
            rintro e W5 ⟨⟨n, ok, hn, rfl, hd⟩, hb⟩
            have HB5 := Lib.hid hb
            have HD := Lib.hid hd
            clear hb hd HRg p0 HWi
            cases ok with
            | false =>
              have hpe : pk = op + 14 := by
                rw [← Hpk.out.1]
                unfold pickP
                rw [if_pos ⟨Hr.out.1, Hr.out.2, Hpn2.out, by rw [Hyd.out, HD.out]; rfl⟩]
              subst hpe
              have HTk := Lib.hid (take_any nb (op + 14) Hpk.out.2 (.slice (some ⟨b0, 0, none⟩) 3 pc) w.heap.size p (by rw [Hpn2.out]; omega) Hpn.out.2 W5 (HS3.out.own HB5.out) (HP.out.below HB5.out) (SecM.below HM.out (HB3.out.trans (HB5.out.mono HB3.out.size))) (Nat.le_trans HB.out (HB3.out.trans (HB5.out.mono HB3.out.size)).size) ⟨by rw [List.length_map]; exact Hl2.out, by have := goals_len st.code; have := Hl2.out; omega, by have := calls_len st.code; have := Hl2.out; omega⟩)
              go_wp2_with fail
              refine HTk.out.mono ?_
              rintro e W6 ⟨he, hO, hN⟩
              have hOw : OutS (InSec bx lb cv gv kv) w W6 := (outS_of (HB3.out.trans (HB5.out.mono HB3.out.size))).trans hO fun _ _ h => h
              have HOw := Lib.hid hOw
              cases hr : takeP nb (op + 14) p with
              | none =>
                have H1 : Hid (lineP nb st s = (1, st)) := Lib.hid (by rw [H4.out, hr])
                rw [hr] at he
                subst he
                clear hO hN hOw hr HTk
                go_wp2_with fail
                go_ret
                rw [H1.out]
                exact ⟨rfl, HOw.out, fun h => by cases h⟩
              | some x =>
                have H1 : Hid (lineP nb st s = (0, ⟨st.code ++ [x], st.labs⟩)) := Lib.hid (by rw [H4.out, hr])
                have HNx := Lib.hid (hN x hr)
                rw [hr] at he
                subst he
                clear hO hN hOw hr HTk
                go_wp2_with fail
                go_ret
                rw [H1.out]
                refine ⟨rfl, HOw.out, fun _ => ?_⟩
                obtain ⟨cv', gv', kv', h1, h2⟩ := HNx.out
                refine ⟨cv', gv', kv', sec_snoc (st := st) (x := x) h1, fun k hk => (h2 k hk).imp id fun h => Nat.le_trans (HB3.out.trans (HB5.out.mono HB3.out.size)).size h⟩
            | true =>
              have hpe : pk = op := by
                rw [← Hpk.out.1]
                unfold pickP
                rw [if_neg (fun h => by have := h.2.2.2; rw [Hyd.out, HD.out] at this; cases this)]
              subst hpe
              have HTk := Lib.hid (take_any nb pk Hpk.out.2 (.slice (some ⟨b0, 0, none⟩) 3 pc) w.heap.size p (by rw [Hpn2.out]; omega) Hpn.out.2 W5 (HS3.out.own HB5.out) (HP.out.below HB5.out) (SecM.below HM.out (HB3.out.trans (HB5.out.mono HB3.out.size))) (Nat.le_trans HB.out (HB3.out.trans (HB5.out.mono HB3.out.size)).size) ⟨by rw [List.length_map]; exact Hl2.out, by have := goals_len st.code; have := Hl2.out; omega, by have := calls_len st.code; have := Hl2.out; omega⟩)
              go_wp2_with fail
              refine HTk.out.mono ?_
              rintro e W6 ⟨he, hO, hN⟩
              have hOw : OutS (InSec bx lb cv gv kv) w W6 := (outS_of (HB3.out.trans (HB5.out.mono HB3.out.size))).trans hO fun _ _ h => h
              have HOw := Lib.hid hOw
              cases hr : takeP nb pk p with
              | none =>
                have H1 : Hid (lineP nb st s = (1, st)) := Lib.hid (by rw [H4.out, hr])
                rw [hr] at he
                subst he
                clear hO hN hOw hr HTk
                go_wp2_with fail
                go_ret
                rw [H1.out]
                exact ⟨rfl, HOw.out, fun h => by cases h⟩
              | some x =>
                have H1 : Hid (lineP nb st s = (0, ⟨st.code ++ [x], st.labs⟩)) := Lib.hid (by rw [H4.out, hr])
                have HNx := Lib.hid (hN x hr)
                rw [hr] at he
                subst he
                clear hO hN hOw hr HTk
                go_wp2_with fail
                go_ret
                rw [H1.out]
                refine ⟨rfl, HOw.out, fun _ => ?_⟩
                obtain ⟨cv', gv', kv', h1, h2⟩ := HNx.out
                refine ⟨cv', gv', kv', sec_snoc (st := st) (x := x) h1, fun k hk => (h2 k hk).imp id fun h => Nat.le_trans (HB3.out.trans (HB5.out.mono HB3.out.size)).size h⟩
          · have hpe : pk = op := by
              rw [← Hpk.out.1]
              unfold pickP
              rw [if_neg (fun h => h3 (by rw [← Hpn2.out]; exact h.2.2.1))]
            subst hpe
            have h3' : ((pn : Int) == 3) = false := by rw [beq_eq_false_iff_ne]; omega
            have h3'' : (pn == 3) = false := beq_false_of_ne h3
            clear h3
            obtain ⟨h5, h18⟩ := hr
            go_wp2_with fail
            refine HWi.out.mono ?_
            rintro e w4 ⟨rfl, rfl⟩
            have HTk := Lib.hid (take_any nb pk Hpk.out.2 (.slice pA pn pc) w.heap.size p (by rw [Hpn2.out]; omega) Hpn.out.2 wc HS3.out HP.out (SecM.below HM.out HB3.out) (Nat.le_trans HB.out HB3.out.size) ⟨by rw [List.length_map]; exact Hl2.out, by have := goals_len st.code; have := Hl2.out; omega, by have := calls_len st.code; have := Hl2.out; omega⟩)
            go_wp2_with fail
            refine HTk.out.mono ?_
            rintro e W6 ⟨he, hO, hN⟩
            have hOw : OutS (InSec bx lb cv gv kv) w W6 := (outS_of HB3.out).trans hO fun _ _ h => h
            have HOw := Lib.hid hOw
            cases hr : takeP nb pk p with
            | none =>
              have H1 : Hid (lineP nb st s = (1, st)) := Lib.hid (by rw [H4.out, hr])
              rw [hr] at he
              subst he
              clear hO hN hOw hr HTk
              go_wp2_with fail
              go_ret
              rw [H1.out]
              exact ⟨rfl, HOw.out, fun h => by cases h⟩
            | some x =>
              have H1 : Hid (lineP nb st s = (0, ⟨st.code ++ [x], st.labs⟩)) := Lib.hid (by rw [H4.out, hr])
              have HNx := Lib.hid (hN x hr)
              rw [hr] at he
              subst he
              clear hO hN hOw hr HTk
              go_wp2_with fail
              go_ret
              rw [H1.out]
              refine ⟨rfl, HOw.out, fun _ => ?_⟩
              obtain ⟨cv', gv', kv', h1, h2⟩ := HNx.out
              refine ⟨cv', gv', kv', sec_snoc (st := st) (x := x) h1, fun k hk => (h2 k hk).imp id fun h => Nat.le_trans HB3.out.size h⟩
        · have hpe : pk = op := by
            rw [← Hpk.out.1]
            unfold pickP
            rw [if_neg (fun h => hr ⟨h.1, h.2.1⟩)]
          subst hpe
          have hd : decide (5 ≤ pk ∧ pk ≤ 18) = false := decide_eq_false hr
          rw [hd] at HWi
          clear hr hd
          go_wp2_with fail
          refine HWi.out.mono ?_
          rintro e w4 ⟨rfl, rfl⟩
          have HTk := Lib.hid (take_any nb pk Hpk.out.2 (.slice pA pn pc) w.heap.size p (by rw [Hpn2.out]; omega) Hpn.out.2 wc HS3.out HP.out (SecM.below HM.out HB3.out) (Nat.le_trans HB.out HB3.out.size) ⟨by rw [List.length_map]; exact Hl2.out, by have := goals_len st.code; have := Hl2.out; omega, by have := calls_len st.code; have := Hl2.out; omega⟩)
          go_wp2_with fail
          refine HTk.out.mono ?_
          rintro e W6 ⟨he, hO, hN⟩
          have hOw : OutS (InSec bx lb cv gv kv) w W6 := (outS_of HB3.out).trans hO fun _ _ h => h
          have HOw := Lib.hid hOw
          cases hr : takeP nb pk p with
          | none =>
            have H1 : Hid (lineP nb st s = (1, st)) := Lib.hid (by rw [H4.out, hr])
            rw [hr] at he
            subst he
            clear hO hN hOw hr HTk
            go_wp2_with fail
            go_ret
            rw [H1.out]
            exact ⟨rfl, HOw.out, fun h => by cases h⟩
          | some x =>
            have H1 : Hid (lineP nb st s = (0, ⟨st.code ++ [x], st.labs⟩)) := Lib.hid (by rw [H4.out, hr])
            have HNx := Lib.hid (hN x hr)
            rw [hr] at he
            subst he
            clear hO hN hOw hr HTk
            go_wp2_with fail
            go_ret
            rw [H1.out]
            refine ⟨rfl, HOw.out, fun _ => ?_⟩
            obtain ⟨cv', gv', kv', h1, h2⟩ := HNx.out
            refine ⟨cv', gv', kv', sec_snoc (st := st) (x := x) h1, fun k hk => (h2 k hk).imp id fun h => Nat.le_trans HB3.out.size h⟩
end
end Go.Proofs.YtdldochhondifaaGreatDoor
