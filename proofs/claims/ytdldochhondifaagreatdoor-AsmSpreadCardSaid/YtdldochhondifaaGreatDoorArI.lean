/-
  Several texts in one (ArH ArI): what each proves stands at its theorems.
  Conditions: as the theorems say.
-/
import Derived.Test.YtdldochhondifaaGreatDoorArG
namespace Go.Proofs.YtdldochhondifaaGreatDoor
open Go.RowKit
attribute [local go_sem] Oper.semAt_some

/-- append's run at one element that has just been laid. -/
theorem run_app_one {P : Program} {w : World} (t ty e : TypeId) (z : Value) (size bytes : Nat) (ht : P.underlying t = some (.slice e)) (hinfo : (P.info? e).map (fun i => (i.zero, i.size, i.bytes)) = some (some z, size, bytes)) (hzs : z.cells.size = size) (hsz : 0 < size) (hby : bytes ≤ 10000)
    (base : Nat) (v : Value) (n : Nat) (xs : List Value) (hown : w.ownsRow base e size v n xs) (news : List Value) (hl : news.length = size) (h1 : ∀ u ∈ news, u.oneCell' = true) (hlen : n ≤ 3000000000) (hbase : base ≤ w.heap.size) :
    ∃ B cap w', (Builtin.append_ #[t, t] ty #[v, .slice (some ⟨w.heap.size, 0, none⟩) 1 1]).run P (w.alloc (.cells news.toArray e)) = .ok (.slice B (n + 1) cap) w' ∧ Appended w base e size v (n + 1) (xs ++ news) (w.heap.size + 1) (.slice B (n + 1) cap) w' := by
  obtain ⟨B, cap, w', hr, a1, a2, a3, a4⟩ := run_app_src (P := P) (w := w.alloc (.cells news.toArray e)) t ty e z size bytes ht hinfo hzs hsz hby base v n xs (hown.alloc _) (some ⟨w.heap.size, 0, none⟩) 1 1 news (by omega) (fun _ => ⟨_, rfl, cells_new w news e _ rfl⟩) h1 (by omega) (by simp; omega)
  rw [World.size_alloc] at a4
  have hg := grown_of_alloc a3
  exact ⟨B, cap, w', hr, a1, grown_below hg hbase (own_block_ge hown), hg, a4⟩
/-- What a label's part leaves. -/
def GoalPost (w : World) (base bx : Nat) (nm : List UInt8) (ms : List Mac) (labs : List (Int × Nat)) (gs ks : List (Nat × List UInt8)) (cv : Value) (lb : Nat) (gv kv : Value) (g : Option Int) (e : Ending) (w' : World) : Prop :=
  e = .returned (.bool g.isSome) ∧ OutS (InSec bx lb cv gv kv) w w' ∧ ∀ n, g = some n → ∃ gv', SecM w' base bx nm ms labs (gs ++ [(ms.length, Lib.itoa n)]) ks cv lb gv' kv ∧ ∀ k, InSec bx lb cv gv' kv k → InSec bx lb cv gv kv k ∨ w.heap.size ≤ k
theorem digI_itoa {s : List UInt8} {k : Nat} {n : Int} (h : digI s k = some n) : s = Lib.itoa n := by
  unfold digI at h
  split at h
  · cases hn : numI s with
    | none => rw [hn] at h; cases h
    | some m =>
      rw [hn] at h
      simp only at h
      split at h
      · cases h
        exact (numI_some.1 hn).2.symm
      · cases h
  · cases h
/-- The label behind its letter. -/
theorem label_cut (s : List UInt8) (hs : s.length ≤ 281474976710656) (w : World) : ∃ rest isB, rest.length ≤ 281474976710656 ∧ Hid (labI s = if isB = true then digI rest 4 else none) ∧
    Calls Tryz.prog 57 #[.string (mkS s), .string ⟨#[76]⟩] w fun e w' => e = .returned (.tuple #[.string (mkS rest), .bool isB]) ∧ w' = w := by
  have hC := Tryz.strings_CutPrefix (mkS s) ⟨#[76]⟩ w
  rw [mkS_list, show (⟨#[76]⟩ : ByteArray).data.toList = [76] from rfl, (prefix_one s 76).1, (prefix_one s 76).2] at hC
  by_cases h1 : s.head? = some 76
  · obtain ⟨r, rfl⟩ : ∃ r, s = 76 :: r := by
      cases s with
      | nil => simp at h1
      | cons c r =>
        have hc : c = 76 := by simpa using h1
        exact ⟨r, by rw [hc]⟩
    rw [if_pos h1, decide_eq_true h1, List.tail_cons] at hC
    exact ⟨r, true, by rw [List.length_cons] at hs; omega, Lib.hid (by rw [if_pos rfl, labI_hit]), hC⟩
  · rw [if_neg h1, decide_eq_false h1] at hC
    exact ⟨s, false, hs, Lib.hid (by rw [if_neg (by simp), labI_miss h1]), hC⟩
section
variable {base bx lb : Nat} {nm : List UInt8} {ms : List Mac} {labs : List (Int × Nat)} {gs ks : List (Nat × List UInt8)} {cv gv kv : Value}
set_option maxRecDepth 100000 in
set_option maxHeartbeats 4000000 in
theorem part_goal (s : List UInt8) (hs : s.length ≤ 281474976710656) (at_ : Value) (nb : Bool) (w : World) (hS : Std w) (hM : SecM w base bx nm ms labs gs ks cv lb gv kv) (hbase : base ≤ w.heap.size) (hl : gs.length ≤ 1000000) :
    Calls Tryz.prog 112 #[.pointer (some ⟨bx, 0, none⟩), .string (mkS s), .int .i64 2, at_, .bool nb] w (GoalPost w base bx nm ms labs gs ks cv lb gv kv (labI s)) := by
  obtain ⟨rest, isB, hrl, HLab, hC⟩ := label_cut s hs w
  have HC := Lib.hid hC
  have HD0 := Lib.hid (digits_any rest 4 hrl w hS.errs hS.pow)
  rw [show ((4 : Nat) : Int) = 4 from rfl] at HD0
  have HM := Lib.hid hM
  obtain ⟨cA, cc, hcv⟩ := row_form hM.code
  obtain ⟨gA, gc, hgv⟩ := row_form hM.goals
  subst hcv hgv
  obtain ⟨cn, hcn⟩ : ∃ cn, ms.length = cn := ⟨_, rfl⟩
  obtain ⟨gn, hgn⟩ : ∃ gn, gs.length = gn := ⟨_, rfl⟩
  have Hcn := Lib.hid hcn
  have Hgn := Lib.hid hgn
  rw [hcn, hgn] at HM ⊢
  rw [hgn] at hl
  have HB := Lib.hid hbase
  clear hC hM hcn hgn hS hbase hs
  go_enter Tryz.func112, Tryz.ntmps112
  go_wp2_with fail
  refine HC.out.mono ?_
  rintro e w1 ⟨rfl, rfl⟩
  go_wp2_with fail
  refine HD0.out.mono ?_
  rintro e W1 ⟨⟨n, ok, hn, rfl, hd⟩, hb⟩
  have HD := Lib.hid hd
  have HB1 := Lib.hid hb
  clear hd hb HD0 HC
  obtain ⟨W2, hW2⟩ : ∃ W2, W1.drew = W2 := ⟨_, rfl⟩
  have HM2 : Hid (SecM W2 base bx nm ms labs gs ks (.slice cA cn cc) lb (.slice gA gn gc) kv) := Lib.hid (by rw [← hW2]; exact (HM.out.below HB1.out).stay fun _ _ => rfl)
  have hz2 : base ≤ W2.heap.size := by rw [← hW2]; exact Nat.le_trans HB.out HB1.out.size
  obtain ⟨B5, c5, W3, hr, hap⟩ := run_app_one (P := Tryz.prog) (w := W2) 54 54 122 _ 2 24 Tryz.underlying54 infoGoal rfl (by decide) (by decide) base _ _ _ HM2.out.goals [.int .i64 (cn : Int), .string (mkS rest)] rfl (fun u hu => by simp at hu; rcases hu with rfl | rfl <;> rfl) (by rw [Hgn.out]; omega) hz2
  have hadd := HM2.out.addGoal (i := cn) (s := rest) hap (by omega)
  rw [Hgn.out] at hadd hr
  have HAdd := Lib.hid hadd
  have Hr := Lib.hid hr
  have hap' := Lib.hid hap
  have hbx := hap.blk HM2.out.goals HM2.out.blk (by decide)
  have HF : Hid (∀ w', w' = W2 ∨ w' = W2.alloc (.cells #[.int .i64 (cn : Int), .string (mkS rest)] 122) ∨ w' = W3 → w'.cell? ⟨bx, 3, none⟩ = some (.slice gA gn gc) ∧ w'.cell? ⟨bx, 1, none⟩ = some (.slice cA cn cc)) := Lib.hid (by
    rintro w' (rfl | rfl | rfl)
    · exact ⟨HM2.out.blk.cell 3, HM2.out.blk.cell 1⟩
    · exact ⟨(HM2.out.blk.alloc _).cell 3, (HM2.out.blk.alloc _).cell 1⟩
    · exact ⟨hbx.cell 3, hbx.cell 1⟩)
  have e3 := hbx.cell 3
  have f3 := hbx.frozen 3
  simp only [List.getElem?_toArray, List.getElem?_cons_succ, List.getElem?_cons_zero] at e3
  have HO : Hid (OutS (InSec bx lb (.slice cA cn cc) (.slice gA gn gc) kv) w1 (W3.setCell ⟨bx, 3, none⟩ (.slice B5 (gn + 1) c5))) := Lib.hid (by
    have h1 := HAdd.out.2.1
    rw [← hW2] at h1
    exact (outS_of HB1.out).trans h1.drewn fun i _ hi => hi)
  have Hz2 : Hid (w1.heap.size ≤ W2.heap.size) := Lib.hid (by rw [← hW2]; exact HB1.out.size)
  have HW2 := Lib.hid hW2
  clear hadd hr hap hbx hz2 hW2
  go_wp2_with fail
  refine wp_region_lex (Three W2 (W2.alloc (.cells #[.int .i64 (cn : Int), .string (mkS rest)] 122)) W3 (W3.setCell ⟨bx, 3, none⟩ (.slice B5 (gn + 1) c5)) 12 13 16 14) (by kernel_rfl) (by kernel_rfl) (by have h : ({ W1 with drawn := W1.drawn + 1 } : World) = W2 := HW2.out; rw [h]; exact Three.start) ?_
  iterate 12
    apply wpLex_step
    · rfl
    · intro L w' hC hL hd
      clear hd
      have F := HF.out w' (hC.pend hL (by decide))
      have HC := Lib.hid hC
      clear hC
      go_simp
      exact ⟨HC.out.keep _ (by decide) (by decide) (by decide), rfl⟩
    simp only [Act.put, List.setIfInBounds_toArray, List.set_cons_succ, List.set_cons_zero, Nat.reduceAdd]
  apply wpLex_step
  · rfl
  · intro L w' hC hL hd
    obtain ⟨hw, hC2⟩ := hC.at1 hL (by decide) (by decide) (by decide)
    subst hw
    have HC2 := Lib.hid hC2
    clear hd hC hL hC2
    go_simp
    exact ⟨HC2.out, rfl⟩
  simp only [Act.put, List.setIfInBounds_toArray, List.set_cons_succ, List.set_cons_zero, Nat.reduceAdd]
  apply wpLex_step
  · rfl
  · intro L w' hC hL hd
    obtain ⟨hw, hC2⟩ := hC.at2 hL (hd ⟨12, .data⟩ (by simp) rfl) (by decide) (by decide)
    subst hw
    rw [exec_app (.tmp 33) (.tmp 41) 54 54 rfl _ _ _ _ rfl rfl Hr.out]
    exact ⟨hC2, rfl⟩
  simp only [Act.put, List.setIfInBounds_toArray, List.set_cons_succ, List.set_cons_zero, Nat.reduceAdd]
  iterate 2
    apply wpLex_step
    · rfl
    · intro L w' hC hL hd
      clear hd
      have HC := Lib.hid hC
      clear hC
      go_simp
      exact ⟨HC.out.keep _ (by decide) (by decide) (by decide), rfl⟩
    simp only [Act.put, List.setIfInBounds_toArray, List.set_cons_succ, List.set_cons_zero, Nat.reduceAdd]
  apply wpLex_step
  · rfl
  · intro L w' hC hL hd
    obtain ⟨hw, hC2⟩ := hC.at3 hL (cover (m := 14) (by kernel_rfl) hd) (by decide) (by decide)
    subst hw
    have HC2 := Lib.hid hC2
    clear hd hC hL hC2
    go_simp
    exact ⟨HC2.out, rfl⟩
  simp only [Act.put, Nat.reduceAdd]
  apply wpLex_nil
  intro L w' hC hd
  obtain rfl := hC.end_ (hd 16 (by decide))
  clear hC hd
  cases isB with
  | false =>
    go_wp2_with fail
    go_ret
    have HL2 : labI s = none := by rw [HLab.out]; rfl
    exact ⟨by rw [HL2]; rfl, HO.out, fun m h => by rw [HL2] at h; cases h⟩
  | true =>
    have HL2 : Hid (labI s = if ok = true then some n else none) := Lib.hid (by rw [HLab.out, if_pos rfl, HD.out])
    cases ok with
    | false =>
      go_wp2_with fail
      go_ret
      exact ⟨by rw [HL2.out]; rfl, HO.out, fun m h => by rw [HL2.out] at h; cases h⟩
    | true =>
      go_wp2_with fail
      go_ret
      refine ⟨by rw [HL2.out]; rfl, HO.out, fun m h => ?_⟩
      rw [HL2.out] at h
      cases h
      have hre : rest = Lib.itoa n := digI_itoa (k := 4) (by rw [HD.out]; rfl)
      rw [← hre, Hcn.out]
      exact ⟨_, HAdd.out.1, fun k hk => (HAdd.out.2.2 k hk).imp id fun h => Nat.le_trans Hz2.out h⟩
/-- What a called routine's part leaves. -/
def CallPost (w : World) (base bx : Nat) (nm : List UInt8) (ms : List Mac) (labs : List (Int × Nat)) (gs ks : List (Nat × List UInt8)) (cv : Value) (lb : Nat) (gv kv : Value) (s : List UInt8) (e : Ending) (w' : World) : Prop :=
  e = .returned (.bool (nameS (mkS s))) ∧ OutS (InSec bx lb cv gv kv) w w' ∧ ∃ kv', SecM w' base bx nm ms labs gs (ks ++ [(ms.length, s)]) cv lb gv kv' ∧ ∀ k, InSec bx lb cv gv kv' k → InSec bx lb cv gv kv k ∨ w.heap.size ≤ k
set_option maxRecDepth 100000 in
set_option maxHeartbeats 4000000 in
theorem part_call (s : List UInt8) (hs : s.length ≤ 281474976710656) (at_ : Value) (w : World) (hM : SecM w base bx nm ms labs gs ks cv lb gv kv) (hbase : base ≤ w.heap.size) (hl : ks.length ≤ 1000000) :
    Calls Tryz.prog 112 #[.pointer (some ⟨bx, 0, none⟩), .string (mkS s), .int .i64 4, at_, .bool true] w (CallPost w base bx nm ms labs gs ks cv lb gv kv s) := by
  have HM := Lib.hid hM
  obtain ⟨cA, cc, hcv⟩ := row_form hM.code
  obtain ⟨kA, kc, hkv⟩ := row_form hM.calls
  subst hcv hkv
  obtain ⟨cn, hcn⟩ : ∃ cn, ms.length = cn := ⟨_, rfl⟩
  obtain ⟨kn, hkn⟩ : ∃ kn, ks.length = kn := ⟨_, rfl⟩
  have Hcn := Lib.hid hcn
  have Hkn := Lib.hid hkn
  rw [hcn, hkn] at HM ⊢
  rw [hkn] at hl
  obtain ⟨W1, hW1⟩ : ∃ W1, w = W1 := ⟨_, rfl⟩
  subst hW1
  obtain ⟨W2, hW2⟩ : ∃ W2, w.drew = W2 := ⟨_, rfl⟩
  have HM2 : Hid (SecM W2 base bx nm ms labs gs ks (.slice cA cn cc) lb gv (.slice kA kn kc)) := Lib.hid (by rw [← hW2]; exact HM.out.stay fun _ _ => rfl)
  have hz2 : base ≤ W2.heap.size := by rw [← hW2]; exact hbase
  obtain ⟨B5, c5, W3, hr, hap⟩ := run_app_one (P := Tryz.prog) (w := W2) 54 54 122 _ 2 24 Tryz.underlying54 infoGoal rfl (by decide) (by decide) base _ _ _ HM2.out.calls [.int .i64 (cn : Int), .string (mkS s)] rfl (fun u hu => by simp at hu; rcases hu with rfl | rfl <;> rfl) (by rw [Hkn.out]; omega) hz2
  have hadd := HM2.out.addCall (i := cn) (s := s) hap (by omega)
  rw [Hkn.out] at hadd hr
  have HAdd := Lib.hid hadd
  have Hr := Lib.hid hr
  have hbx := hap.blk HM2.out.calls HM2.out.blk (by decide)
  have HF : Hid (∀ w', w' = W2 ∨ w' = W2.alloc (.cells #[.int .i64 (cn : Int), .string (mkS s)] 122) ∨ w' = W3 → w'.cell? ⟨bx, 4, none⟩ = some (.slice kA kn kc) ∧ w'.cell? ⟨bx, 1, none⟩ = some (.slice cA cn cc)) := Lib.hid (by
    rintro w' (rfl | rfl | rfl)
    · exact ⟨HM2.out.blk.cell 4, HM2.out.blk.cell 1⟩
    · exact ⟨(HM2.out.blk.alloc _).cell 4, (HM2.out.blk.alloc _).cell 1⟩
    · exact ⟨hbx.cell 4, hbx.cell 1⟩)
  have e3 := hbx.cell 4
  have f3 := hbx.frozen 4
  simp only [List.getElem?_toArray, List.getElem?_cons_succ, List.getElem?_cons_zero] at e3
  have HO : Hid (OutS (InSec bx lb (.slice cA cn cc) gv (.slice kA kn kc)) w (W3.setCell ⟨bx, 4, none⟩ (.slice B5 (kn + 1) c5))) := Lib.hid (by
    have h1 := HAdd.out.2.1
    rw [← hW2] at h1
    exact h1.drewn)
  have Hz2 : Hid (w.heap.size ≤ W2.heap.size) := Lib.hid (by rw [← hW2]; exact Nat.le_refl _)
  have HW2 := Lib.hid hW2
  have HNm := Lib.hid (Name_any (mkS s) (W3.setCell ⟨bx, 4, none⟩ (.slice B5 (kn + 1) c5)) (by rw [mkS_size]; omega))
  clear hadd hr hap hbx hz2 hW2 hM hcn hkn hbase
  go_enter Tryz.func112, Tryz.ntmps112
  go_wp2_with fail
  refine wp_region_lex (Three W2 (W2.alloc (.cells #[.int .i64 (cn : Int), .string (mkS s)] 122)) W3 (W3.setCell ⟨bx, 4, none⟩ (.slice B5 (kn + 1) c5)) 12 13 16 14) (by kernel_rfl) (by kernel_rfl) (by have h : ({ w with drawn := w.drawn + 1 } : World) = W2 := HW2.out; rw [h]; exact Three.start) ?_
  iterate 12
    apply wpLex_step
    · rfl
    · intro L w' hC hL hd
      clear hd
      have F := HF.out w' (hC.pend hL (by decide))
      have HC := Lib.hid hC
      clear hC
      go_simp
      exact ⟨HC.out.keep _ (by decide) (by decide) (by decide), rfl⟩
    simp only [Act.put, List.setIfInBounds_toArray, List.set_cons_succ, List.set_cons_zero, Nat.reduceAdd]
  apply wpLex_step
  · rfl
  · intro L w' hC hL hd
    obtain ⟨hw, hC2⟩ := hC.at1 hL (by decide) (by decide) (by decide)
    subst hw
    have HC2 := Lib.hid hC2
    clear hd hC hL hC2
    go_simp
    exact ⟨HC2.out, rfl⟩
  simp only [Act.put, List.setIfInBounds_toArray, List.set_cons_succ, List.set_cons_zero, Nat.reduceAdd]
  apply wpLex_step
  · rfl
  · intro L w' hC hL hd
    obtain ⟨hw, hC2⟩ := hC.at2 hL (hd ⟨12, .data⟩ (by simp) rfl) (by decide) (by decide)
    subst hw
    rw [exec_app (.tmp 54) (.tmp 62) 54 54 rfl _ _ _ _ rfl rfl Hr.out]
    exact ⟨hC2, rfl⟩
  simp only [Act.put, List.setIfInBounds_toArray, List.set_cons_succ, List.set_cons_zero, Nat.reduceAdd]
  iterate 2
    apply wpLex_step
    · rfl
    · intro L w' hC hL hd
      clear hd
      have HC := Lib.hid hC
      clear hC
      go_simp
      exact ⟨HC.out.keep _ (by decide) (by decide) (by decide), rfl⟩
    simp only [Act.put, List.setIfInBounds_toArray, List.set_cons_succ, List.set_cons_zero, Nat.reduceAdd]
  apply wpLex_step
  · rfl
  · intro L w' hC hL hd
    obtain ⟨hw, hC2⟩ := hC.at3 hL (cover (m := 14) (by kernel_rfl) hd) (by decide) (by decide)
    subst hw
    have HC2 := Lib.hid hC2
    clear hd hC hL hC2
    go_simp
    exact ⟨HC2.out, rfl⟩
  simp only [Act.put, Nat.reduceAdd]
  apply wpLex_nil
  intro L w' hC hd
  obtain rfl := hC.end_ (hd 16 (by decide))
  clear hC hd
  go_wp2_with fail
  refine HNm.out.mono ?_
  rintro e W4 ⟨rfl, rfl⟩
  go_wp2_with fail
  go_ret
  refine ⟨rfl, HO.out, ?_⟩
  rw [Hcn.out]
  exact ⟨_, HAdd.out.1, fun k hk => (HAdd.out.2.2 k hk).imp id fun h => Nat.le_trans Hz2.out h⟩
/-- What a number's part leaves. -/
def NumbPost (w : World) (bm : Nat) (cs : Array Value) (r : Option Int) (e : Ending) (w' : World) : Prop :=
  e = .returned (.bool r.isSome) ∧ OutS (fun k => k = bm) w w' ∧ ∀ n, r = some n → Blk w' bm 39 (cs.setIfInBounds 4 (.int .i64 n))
set_option maxRecDepth 100000 in
theorem part_num (bx : Nat) (s : List UInt8) (hs : s.length ≤ 281474976710656) (kind : Int) (nb : Bool) (hk : kind = 1 ∨ kind = 3 ∨ (kind = 4 ∧ nb = false)) (bm : Nat) (x0 x1 x2 x3 x4 : Value) (w : World) (hS : Std w) (hm : Blk w bm 39 #[x0, x1, x2, x3, x4]) :
    Calls Tryz.prog 112 #[.pointer (some ⟨bx, 0, none⟩), .string (mkS s), .int .i64 kind, .pointer (some ⟨bm, 4, none⟩), .bool nb] w (NumbPost w bm #[x0, x1, x2, x3, x4] (numI s)) := by
  have HN := Lib.hid (numeral_any s hs w hS.errs hS.pow)
  have HMb := Lib.hid hm
  clear hS hm
  rcases hk with rfl | rfl | ⟨rfl, rfl⟩
  all_goals
    go_enter Tryz.func112, Tryz.ntmps112
    go_wp2_with fail
    refine HN.out.mono ?_
    rintro e w1 ⟨⟨n, ok, hn, rfl, hd⟩, hb⟩
    have HD := Lib.hid hd
    have HB := Lib.hid hb
    have HM1 := Lib.hid (HMb.out.below hb HMb.out.lt)
    have c4 := HM1.out.cell 4
    have f4 := HM1.out.frozen 4
    clear hd hb HN
    go_wp2_with fail
    go_ret
    refine ⟨?_, (outS_of HB.out).trans (outS_set (S := fun k => k = bm) w1 bm 4 _ rfl) fun i _ e => e, fun m h => ?_⟩
    · rw [HD.out]; cases ok <;> rfl
    · rw [HD.out] at h
      cases ok with
      | false => cases h
      | true =>
        cases h
        exact HM1.out.set_ 4 _
end
end Go.Proofs.YtdldochhondifaaGreatDoor
namespace Go.Proofs.YtdldochhondifaaGreatDoor
open Go.RowKit

/-- A register's letter: its place in the instruction. -/
def offL (c : UInt8) : Nat := if c = 100 then 1 else if c = 97 then 2 else 3
def isReg (c : UInt8) : Bool := c == 100 || c == 97 || c == 98
def regL (op : Int) : List UInt8 := (ordL op).filter isReg
def numL (op : Int) : List UInt8 := (ordL op).filter fun c => !isReg c
/-- The offsets of the registers that are used, in the machine's order. -/
def offsAll (d a b : Bool) : List Nat := (if d then [1] else []) ++ (if a then [2] else []) ++ (if b then [3] else [])
def offsOf (op : Int) : List Nat := (regL op).map offL
theorem ord_facts {op : Int} (h : isOp op = true) :
    ordL op = regL op ++ numL op ∧ (if op = 34 then (offsAll (shD op) (shA op) (shB op)).reverse else offsAll (shD op) (shA op) (shB op)) = offsOf op ∧ (op = 34 → offsAll (shD op) (shA op) (shB op) = [2, 3]) ∧
    ((shK op = 0 ∧ numL op = []) ∨ (shK op = 1 ∧ numL op = [110]) ∨ (shK op = 2 ∧ numL op = [116]) ∨ (shK op = 3 ∧ numL op = [119]) ∨ (shK op = 4 ∧ numL op = [114])) := by
  have key : ∀ k : Fin 48, 1 ≤ k.val →
      ordL (k.val : Int) = regL (k.val : Int) ++ numL (k.val : Int) ∧ (if (k.val : Int) = 34 then (offsAll (shD (k.val : Int)) (shA (k.val : Int)) (shB (k.val : Int))).reverse else offsAll (shD (k.val : Int)) (shA (k.val : Int)) (shB (k.val : Int))) = offsOf (k.val : Int) ∧ ((k.val : Int) = 34 → offsAll (shD (k.val : Int)) (shA (k.val : Int)) (shB (k.val : Int)) = [2, 3]) ∧
      ((shK (k.val : Int) = 0 ∧ numL (k.val : Int) = []) ∨ (shK (k.val : Int) = 1 ∧ numL (k.val : Int) = [110]) ∨ (shK (k.val : Int) = 2 ∧ numL (k.val : Int) = [116]) ∨ (shK (k.val : Int) = 3 ∧ numL (k.val : Int) = [119]) ∨ (shK (k.val : Int) = 4 ∧ numL (k.val : Int) = [114])) := by
    decide +kernel
  obtain ⟨h1, h2⟩ := (isOp_iff op).1 h
  have := key ⟨op.toNat, by omega⟩ (by simp; omega)
  simp only [show ((op.toNat : Nat) : Int) = op from by omega] at this
  exact this
theorem regL_reg {op : Int} {i : Nat} {c : UInt8} (h : (regL op)[i]? = some c) : c = 100 ∨ c = 97 ∨ c = 98 := by
  have hm := List.mem_of_getElem? h
  unfold regL at hm
  have := (List.mem_filter.1 hm).2
  unfold isReg at this
  simp only [Bool.or_eq_true, beq_iff_eq] at this
  rcases this with (h | h) | h
  · exact .inl h
  · exact .inr (.inl h)
  · exact .inr (.inr h)
/-- A register set in its place. -/
def setReg (m : Mac) (c : UInt8) (n : Int) : Mac := if c = 100 then { m with dst := n } else if c = 97 then { m with a := n } else { m with b := n }
theorem field_reg {named : Bool} {x : Ins} {c : UInt8} {s : List UInt8} (h : c = 100 ∨ c = 97 ∨ c = 98) : fieldP named x c s = (regI s).map fun n => ⟨setReg x.m c n, x.goal, x.call⟩ := by
  rcases h with rfl | rfl | rfl <;> rfl
theorem setReg_cells {m : Mac} {c : UInt8} {n : Int} (h : c = 100 ∨ c = 97 ∨ c = 98) : (setReg m c n).cells.toArray = m.cells.toArray.setIfInBounds (offL c) (.int .i64 n) := by
  rcases h with rfl | rfl | rfl <;> rfl
theorem offL_le (c : UInt8) : 1 ≤ offL c ∧ offL c ≤ 3 := by unfold offL; split <;> (try split) <;> omega
/-- What the parts of an instruction say. -/
def takeP (named : Bool) (op : Int) (p : List (List UInt8)) : Option Ins := if p.length = (ordL op).length then fieldsP named (ins0 op) (ordL op) p else none
/-- The registers that have been read say m; the rest is to come. -/
def TakeTo (named : Bool) (op : Int) (p : List (List UInt8)) (i : Nat) (m : Mac) : Prop :=
  m.op = op ∧ takeP named op p = fieldsP named ⟨m, none, none⟩ ((ordL op).drop i) (p.drop i)
theorem TakeTo.zero {named : Bool} {op : Int} {p : List (List UInt8)} (h : p.length = (ordL op).length) : TakeTo named op p 0 ⟨op, 0, 0, 0, 0⟩ := by
  refine ⟨rfl, ?_⟩
  unfold takeP
  rw [if_pos h]
  rfl
theorem ord_at {op : Int} (h : isOp op = true) {i : Nat} {c : UInt8} (hc : (regL op)[i]? = some c) : (ordL op).drop i = c :: (ordL op).drop (i + 1) := by
  have hi := (List.getElem?_eq_some_iff.1 hc).1
  have ho : (ordL op)[i]? = some c := by rw [(ord_facts h).1, List.getElem?_append_left hi]; exact hc
  obtain ⟨h1, h2⟩ := List.getElem?_eq_some_iff.1 ho
  rw [List.drop_eq_getElem_cons h1, h2]
theorem drop_at {p : List (List UInt8)} {i : Nat} {s : List UInt8} (h : p[i]? = some s) : p.drop i = s :: p.drop (i + 1) := by
  obtain ⟨h1, h2⟩ := List.getElem?_eq_some_iff.1 h
  rw [List.drop_eq_getElem_cons h1, h2]
theorem TakeTo.next {named : Bool} {op : Int} {p : List (List UInt8)} {i : Nat} {m : Mac} {c : UInt8} {s : List UInt8} (h : TakeTo named op p i m) (hop : isOp op = true) (hc : (regL op)[i]? = some c) (hs : p[i]? = some s) :
    (regI s = none → takeP named op p = none) ∧ ∀ n, regI s = some n → TakeTo named op p (i + 1) (setReg m c n) := by
  obtain ⟨h1, h2⟩ := h
  rw [ord_at hop hc, drop_at hs, fieldsP, field_reg (regL_reg hc)] at h2
  refine ⟨fun hn => ?_, fun n hn => ⟨?_, ?_⟩⟩
  · rw [h2, hn]; rfl
  · rw [← h1]; unfold setReg; split <;> (try split) <;> rfl
  · rw [h2, hn]; rfl
theorem TakeTo.end_ {named : Bool} {op : Int} {p : List (List UInt8)} {m : Mac} (h : TakeTo named op p (regL op).length m) (hop : isOp op = true) :
    takeP named op p = fieldsP named ⟨m, none, none⟩ (numL op) (p.drop (regL op).length) := by
  have e : (ordL op).drop (regL op).length = numL op := by
    conv => lhs; rw [(ord_facts hop).1]
    exact List.drop_left' rfl
  rw [h.2, e]

/-! A drawn region in which one operation writes. -/
def OneC (W0 : World) (R : World → Prop) (k : Nat) (L : Array Bool) (w : World) : Prop := if L.getD k false = true then R w else w = W0
section
variable {W0 w w' : World} {R : World → Prop} {k : Nat} {L : Array Bool}
theorem OneC.start {n : Nat} : OneC W0 R k (Array.replicate n false) W0 := by
  unfold OneC
  have h : (Array.replicate n false).getD k false = false := by
    simp only [Array.getD_eq_getD_getElem?]
    rcases Nat.lt_or_ge k n with h | h
    · rw [Array.getElem?_eq_getElem (by simpa using h)]; simp
    · rw [Array.getElem?_eq_none (by simpa using h)]; rfl
  rw [h]
  exact rfl
theorem OneC.keep (h : OneC W0 R k L w) (j : Nat) (hj : j ≠ k) : OneC W0 R k (L.setIfInBounds j true) w := by
  unfold OneC at *
  rw [getD_set_ne L j k hj]
  exact h
theorem OneC.pend (h : OneC W0 R k L w) (hk : L.getD k false = false) : W0 = w := by
  unfold OneC at h
  rw [hk] at h
  exact h.symm
theorem OneC.at_ (h : OneC W0 R k L w) (hk : L.getD k true = false) : W0 = w := h.pend (getD_false L k hk)
theorem OneC.put (hk : L.getD k true = false) (hr : R w') : OneC W0 R k (L.setIfInBounds k true) w' := by
  unfold OneC
  rw [getD_set_eq L k hk, if_pos rfl]
  exact hr
theorem OneC.done (h : OneC W0 R k L w) (hk : L.getD k false = true) : R w := by
  unfold OneC at h
  rw [hk, if_pos rfl] at h
  exact h
end
end Go.Proofs.YtdldochhondifaaGreatDoor
