/-
  Several texts in one (ArK ArL): what each proves stands at its theorems.
  Conditions: as the theorems say.
-/
import Derived.Test.YtdldochhondifaaGreatDoorArJ
namespace Go.Proofs.YtdldochhondifaaGreatDoor
open Go.RowKit
attribute [local go_sem] Oper.semAt_some

theorem suffix_one (s : List UInt8) (c : UInt8) : Lib.hasSuffix s [c] = decide (s.getLast? = some c) ∧ Lib.trimSuffix s [c] = if s.getLast? = some c then s.dropLast else s := by
  have h : Lib.hasSuffix s [c] = decide (s.getLast? = some c) := by
    unfold Lib.hasSuffix
    rw [Bool.eq_iff_iff, List.isSuffixOf_iff_suffix, decide_eq_true_iff]
    constructor
    · rintro ⟨t, rfl⟩
      simp
    · intro h
      obtain ⟨l, rfl⟩ := List.getLast?_eq_some_iff.1 h
      exact List.suffix_append _ _
  refine ⟨h, ?_⟩
  unfold Lib.trimSuffix
  rw [h]
  by_cases h1 : s.getLast? = some c
  · rw [if_pos h1, if_pos (by simpa using h1), List.dropLast_eq_take]
    rfl
  · rw [if_neg h1, if_neg (by simpa using h1)]
theorem CutSuffix_any (s : List UInt8) (hs : s.length ≤ 9223372036854775807) (c : UInt8) (w : World) :
    Calls Tryz.prog 56 #[.string (mkS s), .string ⟨#[c]⟩] w fun e w' => e = .returned (.tuple #[.string (mkS (if s.getLast? = some c then s.dropLast else s)), .bool (decide (s.getLast? = some c))]) ∧ w = w' := by
  refine (Tryz.strings_CutSuffix (mkS s) ⟨#[c]⟩ w (by rw [mkS_size]; exact hs)).mono ?_
  rintro e w' ⟨rfl, rfl⟩
  rw [mkS_list, show (⟨#[c]⟩ : ByteArray).data.toList = [c] from rfl, (suffix_one s c).1, (suffix_one s c).2]
  exact ⟨rfl, rfl⟩
theorem split_data (t : List UInt8) (c : UInt8) : (Lib.splitB ⟨#[c]⟩ 0 (Lib.countB (mkS t) ⟨#[c]⟩) (mkS t)).map Value.string = (splitC c [] t).map fun l => Value.string (mkS l) := by
  have h := Lib.splitB_data ⟨#[c]⟩ 0 (Lib.countB (mkS t) ⟨#[c]⟩) (mkS t)
  have hk : Lib.countB (mkS t) ⟨#[c]⟩ = t.count c := by
    have := Lib.count_one c t
    unfold Lib.countB
    rw [mkS_list]
    exact this
  rw [mkS_list, show (⟨#[c]⟩ : ByteArray).data.toList = [c] from rfl, split_one c _ t (by rw [hk]; exact Nat.le_refl _)] at h
  rw [← h, List.map_map]
  refine List.map_congr_left fun x _ => ?_
  show Value.string x = Value.string (mkS x.data.toList)
  rw [mkS_back]
theorem Split_any (t : List UInt8) (c : UInt8) (ht : t.length < 4294967281) (w : World) (hS : Std w) :
    Calls Tryz.prog 61 #[.string (mkS t), .string ⟨#[c]⟩] w fun e w' => TextsPost w.heap.size (splitC c [] t) e w' ∧ Below w.heap.size w w' := by
  obtain ⟨m, hm⟩ := hS.len
  refine (Tryz.strings_Split (mkS t) ⟨#[c]⟩ m w (by rw [mkS_size]; exact ht) hm (Nat.le_refl 1)).mono ?_
  rintro e w' ⟨rfl, rfl⟩
  have hd := split_data t c
  have hl := congrArg List.length hd
  rw [List.length_map, List.length_map, Lib.splitB_all ⟨#[c]⟩ (Nat.le_refl 1) 0 _ _ rfl] at hl
  have hlen := splitC_len c t []
  refine ⟨⟨_, rfl, ?_⟩, (Below.refl _ _).alloc (Nat.le_refl _) _⟩
  rw [hd, hl]
  unfold OwnS
  refine ⟨by rw [List.length_map, Nat.mul_one], .inr ⟨w.heap.size, _, _, rfl, Nat.le_refl _, heap_alloc_new w _, Nat.le_refl _, by unfold maxLen; omega, by simp, by rw [Nat.mul_one, List.take_of_length_le (by simp)]⟩⟩
theorem IndexBlank_any (t : List UInt8) (w : World) :
    Calls Tryz.prog 59 #[.string (mkS t), .func (.func 55) #[] #[]] w fun e w' => e = .returned (.int .i64 (if t.dropWhile (fun c => !bl c) = [] then -1 else ((wordP t).length : Int))) ∧ Below w.heap.size w w' := by
  refine (Tryz.strings_IndexFunc 55 #[] blank_enter blR (mkS t) w (blank_pred w)).mono ?_
  rintro e w' ⟨rfl, hb⟩
  refine ⟨?_, hb⟩
  have h := index_bl (mkS t) (mkS t).size 0 (by rw [mkS_list, mkS_size]; omega) (by omega)
  rw [mkS_list, List.drop_zero, Nat.zero_add] at h
  unfold Lib.idxFunc
  rw [h]
  rfl
theorem TrimLeft_any (t : List UInt8) (w : World) :
    Calls Tryz.prog 60 #[.string (mkS t), .func (.func 55) #[] #[]] w fun e w' => e = .returned (.string (mkS (t.dropWhile bl))) ∧ Below w.heap.size w w' := by
  refine (Tryz.strings_TrimLeftFunc 55 #[] blank_enter blR (mkS t) w (blank_pred w)).mono ?_
  rintro e w' ⟨rfl, hb⟩
  refine ⟨?_, hb⟩
  rw [← mkS_back (Lib.trimLeftF blR (mkS t)), trimLeft_bl, mkS_list]
/-- A word's first place among texts. -/
theorem idx_at (x : List UInt8) : ∀ (zs : List (List UInt8)) (i : Nat), Lib.idxFromS (zs.map mkS) (mkS x) i = match zs.findIdx? (fun y => decide (y = x)) with
    | some k => ((i + k : Nat) : Int)
    | none => -1
  | [], i => rfl
  | z :: zs, i => by
    rw [List.map_cons, Lib.idxFromS, List.findIdx?_cons]
    by_cases h : z = x
    · subst h
      simp
    · have h1 : ¬ mkS z = mkS x := fun e => h (mkS_inj e)
      have ih := idx_at x zs (i + 1)
      rw [if_neg (by simpa using h1), ih]
      simp only [h, decide_false, Bool.false_eq_true, if_false]
      cases zs.findIdx? (fun y => decide (y = x)) with
      | none => rfl
      | some k => simp only [Option.map_some]; congr 1; omega
theorem IndexWord_any (x : List UInt8) (w : World) (hW : Wrd w) :
    Calls Tryz.prog 62 #[.slice (some ⟨0, 0, none⟩) 48 48, .string (mkS x)] w fun e w' => e = .returned (.int .i64 (wordAt x)) ∧ w = w' := by
  refine (Tryz.slices_Index_string 0 0 48 48 (wordTab.map mkS) (mkS x) w (by decide) (by decide) (fun j hj => ?_)).mono ?_
  · rw [List.length_map] at hj
    have h := hW.2 j (wordTab[j]'hj) (List.getElem?_eq_getElem hj)
    rw [List.getD_eq_getElem?_getD, List.getElem?_map, List.getElem?_eq_getElem hj]
    rw [Nat.zero_add]
    exact h
  · rintro e w' ⟨rfl, rfl⟩
    refine ⟨?_, rfl⟩
    have h := idx_at x wordTab 0
    rw [List.take_of_length_le (by decide)]
    unfold Lib.idxOfS
    rw [h]
    unfold wordAt
    cases wordTab.findIdx? (fun y => decide (y = x)) with
    | none => rfl
    | some k => simp only [Nat.zero_add]
end Go.Proofs.YtdldochhondifaaGreatDoor
namespace Go.Proofs.YtdldochhondifaaGreatDoor
open Go.RowKit
attribute [local go_sem] Oper.semAt_some

/-- What a line leaves. -/
def LinePost (w : World) (base bx : Nat) (nm : List UInt8) (cv : Value) (lb : Nat) (gv kv : Value) (r : Int × PSt) (e : Ending) (w' : World) : Prop :=
  e = .returned (.int .i64 r.1) ∧ OutS (InSec bx lb cv gv kv) w w' ∧ (r.1 = 0 → ∃ cv' gv' kv', Sec w' base bx nm r.2 cv' lb gv' kv' ∧ ∀ k, InSec bx lb cv' gv' kv' k → InSec bx lb cv gv kv k ∨ w.heap.size ≤ k)
theorem zeroInt (w : World) : (zeroValue 3).run Tryz.prog w = .ok (.int .i64 0) w := by kernel_rfl
theorem digI_i64 {s : List UInt8} {k : Nat} {n : Int} (h : digI s k = some n) : I64 n := by
  unfold digI at h
  split at h
  · cases hn : numI s with
    | none => rw [hn] at h; cases h
    | some m =>
      rw [hn] at h
      simp only at h
      split at h
      · cases h
        exact (numI_some.1 hn).1
      · cases h
  · cases h
section
variable {base bx lb : Nat} {nm : List UInt8} {st : PSt} {cv gv kv : Value}
set_option maxRecDepth 100000 in
set_option maxHeartbeats 4000000 in
theorem line_label (nb : Bool) (s : List UInt8) (hs : s.length ≤ 1000000) (hc : s.getLast? = some 58) (w : World) (hS : Std w) (hM : Sec w base bx nm st cv lb gv kv) (hbase : base ≤ w.heap.size) (hl : st.labs.length ≤ 1000000) (hl2 : st.code.length ≤ 1000000) :
    Calls Tryz.prog 25 #[.pointer (some ⟨bx, 0, none⟩), .string (mkS s), .bool nb] w (LinePost w base bx nm cv lb gv kv (lineP nb st s)) := by
  obtain ⟨rest, isB, hrl, HLab, hC⟩ := label_cut s.dropLast (by rw [List.length_dropLast]; omega) w
  have HC := Lib.hid hC
  have hx := CutSuffix_any s (by omega) 58 w
  rw [if_pos hc, decide_eq_true hc] at hx
  have HX := Lib.hid hx
  have HD0 := Lib.hid (digits_any rest 4 hrl w hS.errs hS.pow)
  rw [show ((4 : Nat) : Int) = 4 from rfl] at HD0
  have HM := Lib.hid hM
  have HS := Lib.hid hS
  have HL : Hid (lineP nb st s = match labI s.dropLast with
    | none => (1, st)
    | some n => if (st.labs.any fun x => x.1 == n) = true then (7, st) else (0, ⟨st.code, st.labs ++ [(n, st.code.length)]⟩)) := Lib.hid (by unfold lineP; rw [if_pos hc]; rfl)
  have HB := Lib.hid hbase
  have Hll := Lib.hid hl
  clear hC hx hM hS hbase hc hl
  go_enter Tryz.func25, Tryz.ntmps25
  go_wp2_with fail
  refine HX.out.mono ?_
  rintro e w0 ⟨rfl, rfl⟩
  go_wp2_with fail
  refine HC.out.mono ?_
  rintro e w1 ⟨rfl, rfl⟩
  go_wp2_with fail
  refine HD0.out.mono ?_
  rintro e W1 ⟨⟨n, ok, hn, rfl, hd⟩, hb⟩
  have HD := Lib.hid hd
  have HB1 := Lib.hid hb
  clear hd hb HD0 HC HX
  cases isB with
  | false =>
    have H1 : Hid (lineP nb st s = (1, st)) := Lib.hid (by rw [HL.out, HLab.out]; rfl)
    go_wp2_with fail
    go_ret
    rw [H1.out]
    exact ⟨rfl, outS_of HB1.out, fun h => by cases h⟩
  | true =>
    cases ok with
    | false =>
      have H1 : Hid (lineP nb st s = (1, st)) := Lib.hid (by rw [HL.out, HLab.out, if_pos rfl, HD.out]; rfl)
      go_wp2_with fail
      go_ret
      rw [H1.out]
      exact ⟨rfl, outS_of HB1.out, fun h => by cases h⟩
    | true =>
      have HE : Hid (lineP nb st s = if (st.labs.any fun x => x.1 == n) = true then (7, st) else (0, ⟨st.code, st.labs ++ [(n, st.code.length)]⟩)) := Lib.hid (by rw [HL.out, HLab.out, if_pos rfl, HD.out]; rfl)
      have HM1 := Lib.hid (SecM.below HM.out HB1.out)
      obtain ⟨D, dn, hown, hdn, hD⟩ := HM1.out.map
      have hkey := intKey (wf_of hn)
      have hat := (hD n (wf_of hn)).1
      rw [place_any] at hat
      have m2 := HM1.out.blk.cell 2
      have HOwn := Lib.hid hown
      have HDD := Lib.hid hD
      have HAt := Lib.hid hat
      have Hdn := Lib.hid hdn
      have Hn := Lib.hid hn
      clear hown hD hat hdn hn
      cases hany : st.labs.any fun x => x.1 == n with
      | true =>
        have H1 : Hid (lineP nb st s = (7, st)) := Lib.hid (by rw [HE.out, if_pos hany])
        have hat : Maps.has D (.int .i64 n) = true := HAt.out.trans hany
        clear hany
        go_wp2_with (at_lookup; refine wpList_lookup_own_ok_int _ rfl _ _ 53 rfl 3 3 .i64 intKeyed Tryz.underlying53 Tryz.underlying3 (zeroInt _) lb dn D rfl HOwn.out _ _ rfl hkey ?_; intro c hat2 hwc)
        go_ret
        rw [H1.out]
        exact ⟨rfl, outS_of HB1.out, fun h => by cases h⟩
      | false =>
        have H1 : Hid (lineP nb st s = (0, ⟨st.code, st.labs ++ [(n, st.code.length)]⟩)) := Lib.hid (by rw [HE.out, if_neg (by rw [hany]; simp)])
        have hat : Maps.has D (.int .i64 n) = false := HAt.out.trans hany
        obtain ⟨cA, cc, hcv⟩ := row_form HM1.out.code
        obtain ⟨cn, hcn⟩ : ∃ cn, (st.code.map fun x => x.m).length = cn := ⟨_, rfl⟩
        have hcl : st.code.length = cn := by rw [← hcn, List.length_map]
        have m1 := HM1.out.blk.cell 1
        have Hcv := Lib.hid hcv
        rw [hcv, hcn] at m1
        have Hcl := Lib.hid hcl
        have hcm : cn ≤ 1000000 := by omega
        clear hany hcv hcn hcl
        go_wp2_with (at_lookup; refine wpList_lookup_own_ok_int _ rfl _ _ 53 rfl 3 3 .i64 intKeyed Tryz.underlying53 Tryz.underlying3 (zeroInt _) lb dn D rfl HOwn.out _ _ rfl hkey ?_; intro c hat2 hwc)
        clear hat hat2 hwc
        go_still_tail 10, (by kernel_rfl)
        have HOw2 : Hid (W1.drew.ownsMap Tryz.prog 3 (plainElem (H := Unit) Tryz.prog 3) lb dn D) := Lib.hid (by
          obtain ⟨es, clock, q1, q2⟩ := HOwn.out
          exact ⟨es, clock, q1, q2⟩)
        go_wp2_with (at_mapUpdate; refine wpList_mapUpdate_in _ rfl _ _ _ 53 rfl 3 3 intKeyed Tryz.underlying53 (plainElem Tryz.prog 3) lb dn D rfl HOw2.out (by have := Hdn.out; have := Hll.out; unfold maxLen; omega) _ _ (.int .i64 n) rfl rfl hkey (.lit (.int .i64 (cn : Int))) [] (plainElem_int Tryz.underlying3 (WalkArith.wf_i64 ⟨by omega, by omega⟩)) ?_; intro w2 hown2 hturn)
        go_ret
        rw [H1.out]
        have hlm : LabMap w2 lb (st.labs ++ [(n, cn)]) := LabMap.put Hdn.out HDD.out HOw2.out.isMap hown2
        rw [← Hcl.out] at hlm
        have hM2 : SecM W1.drew base bx nm (st.code.map fun x => x.m) st.labs (goalsOf st.code) (callsOf st.code) cv lb gv kv := HM1.out.stay fun _ _ => rfl
        obtain ⟨q1, q2⟩ := hM2.addLab hlm hturn
        refine ⟨rfl, (outS_of HB1.out).trans q2.drewn fun _ _ h => h, fun _ => ⟨cv, gv, kv, q1, fun k hk => .inl hk⟩⟩
end
end Go.Proofs.YtdldochhondifaaGreatDoor
