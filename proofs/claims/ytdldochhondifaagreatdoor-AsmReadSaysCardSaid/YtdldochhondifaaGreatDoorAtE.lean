/-
  The reference's line: a label.
  Conditions: the piece's memory.
-/
import Derived.Test.YtdldochhondifaaGreatDoorAtD
namespace Go.Proofs.YtdldochhondifaaGreatDoor
open Go.RowKit
attribute [local go_sem] Oper.semAt_some

/-- What a line leaves. -/
def PLinePost (w : World) (base bx : Nat) (nm : List UInt8) (v : Pv) (r : Int × PSt) (e : Ending) (w' : World) : Prop :=
  e = .returned (.int .i64 r.1) ∧ OutS (InV bx v) w w' ∧ (r.1 = 0 → ∃ v', Pie w' base bx nm r.2 v' ∧ ∀ k, InV bx v' k → InV bx v k ∨ w.heap.size ≤ k)
section
variable {w : World} {base bx : Nat} {nm : List UInt8} {ms : List Mac} {labs places goals : List Int} {calls : List (List UInt8)} {v : Pv}
theorem pie_len {ms : List Mac} (h : PieM w base bx nm (pieRows ms labs places goals calls v)) :
    (∃ A c, v.c = .slice A ms.length c) ∧ (∃ A c, v.l = .slice A labs.length c) ∧ (∃ A c, v.p = .slice A places.length c) ∧ (∃ A c, v.g = .slice A goals.length c) ∧ (∃ A c, v.k = .slice A calls.length c) :=
  ⟨row_form (h.at_ (i := 0) rfl).1, row_form (h.at_ (i := 1) rfl).1, row_form (h.at_ (i := 2) rfl).1, row_form (h.at_ (i := 3) rfl).1, row_form (h.at_ (i := 4) rfl).1⟩
/-- A number of a row. -/
theorem pie_lab (h : PieM w base bx nm (pieRows ms labs places goals calls v)) {i : Nat} {x : Int} (hi : labs[i]? = some x) : ∃ b c, v.l = .slice (some ⟨b, 0, none⟩) labs.length c ∧ w.cell? ⟨b, i, none⟩ = some (.int .i64 x) := by
  have hr : w.ownsRow base 3 1 v.l labs.length (labs.map (Value.int .i64)) := (h.at_ (i := 1) rfl).1
  have hil := (List.getElem?_eq_some_iff.1 hi).1
  obtain ⟨b, c, hv, _⟩ := hr.form (by omega)
  rw [hv] at hr
  exact ⟨b, c, hv, (hr.cellAt i (by omega)).trans (by rw [List.getElem?_map, hi]; rfl)⟩
theorem rInts_snoc (v v' : Value) (xs : List Int) (x : Int) : (⟨(rInts v xs).e, (rInts v xs).size, v', (rInts v xs).n + 1, xs.map (Value.int .i64) ++ [.int .i64 x]⟩ : Rw) = rInts v' (xs ++ [x]) := by
  simp [rInts]
theorem rStrs_snoc (v v' : Value) (xs : List (List UInt8)) (x : List UInt8) : (⟨(rStrs v xs).e, (rStrs v xs).size, v', (rStrs v xs).n + 1, (xs.map fun l => Value.string (mkS l)) ++ [.string (mkS x)]⟩ : Rw) = rStrs v' (xs ++ [x]) := by
  simp [rStrs]
theorem inV_pie {ms : List Mac} {k : Nat} (h : InV bx v k) : InPie bx (pieRows ms labs places goals calls v) k := inPie_iff.2 h
/-- A label more. -/
theorem pie_addLab (h : PieM w base bx nm (pieRows ms labs places goals calls v)) {x : Int} {v' : Value} {w' : World} {H : Nat} (hap : Appended w base 3 1 v.l (labs.length + 1) (labs.map (Value.int .i64) ++ [.int .i64 x]) H v' w') (hH : w.heap.size ≤ H) :
    PieM (w'.setCell ⟨bx, 2, none⟩ v') base bx nm (pieRows ms (labs ++ [x]) places goals calls { v with l := v' }) ∧ OutS (InV bx v) w (w'.setCell ⟨bx, 2, none⟩ v') ∧ ∀ k, InV bx { v with l := v' } k → InV bx v k ∨ w.heap.size ≤ k := by
  obtain ⟨h1, h2, h3⟩ := h.add (i := 1) rfl hap hH
  have e := rInts_snoc v.l v' labs x
  rw [e] at h1 h3
  exact ⟨h1, h2.wider fun k _ hk => inPie_iff.1 hk, fun k hk => (h3 k (inV_pie (v := { v with l := v' }) hk)).imp inPie_iff.1 id⟩
theorem pie_addPlace (h : PieM w base bx nm (pieRows ms labs places goals calls v)) {x : Int} {v' : Value} {w' : World} {H : Nat} (hap : Appended w base 3 1 v.p (places.length + 1) (places.map (Value.int .i64) ++ [.int .i64 x]) H v' w') (hH : w.heap.size ≤ H) :
    PieM (w'.setCell ⟨bx, 3, none⟩ v') base bx nm (pieRows ms labs (places ++ [x]) goals calls { v with p := v' }) ∧ OutS (InV bx v) w (w'.setCell ⟨bx, 3, none⟩ v') ∧ ∀ k, InV bx { v with p := v' } k → InV bx v k ∨ w.heap.size ≤ k := by
  obtain ⟨h1, h2, h3⟩ := h.add (i := 2) rfl hap hH
  have e := rInts_snoc v.p v' places x
  rw [e] at h1 h3
  exact ⟨h1, h2.wider fun k _ hk => inPie_iff.1 hk, fun k hk => (h3 k (inV_pie (v := { v with p := v' }) hk)).imp inPie_iff.1 id⟩
theorem pie_addGoal (h : PieM w base bx nm (pieRows ms labs places goals calls v)) {x : Int} {v' : Value} {w' : World} {H : Nat} (hap : Appended w base 3 1 v.g (goals.length + 1) (goals.map (Value.int .i64) ++ [.int .i64 x]) H v' w') (hH : w.heap.size ≤ H) :
    PieM (w'.setCell ⟨bx, 4, none⟩ v') base bx nm (pieRows ms labs places (goals ++ [x]) calls { v with g := v' }) ∧ OutS (InV bx v) w (w'.setCell ⟨bx, 4, none⟩ v') ∧ ∀ k, InV bx { v with g := v' } k → InV bx v k ∨ w.heap.size ≤ k := by
  obtain ⟨h1, h2, h3⟩ := h.add (i := 3) rfl hap hH
  have e := rInts_snoc v.g v' goals x
  rw [e] at h1 h3
  exact ⟨h1, h2.wider fun k _ hk => inPie_iff.1 hk, fun k hk => (h3 k (inV_pie (v := { v with g := v' }) hk)).imp inPie_iff.1 id⟩
theorem pie_addCall (h : PieM w base bx nm (pieRows ms labs places goals calls v)) {x : List UInt8} {v' : Value} {w' : World} {H : Nat} (hap : Appended w base 9 1 v.k (calls.length + 1) ((calls.map fun l => Value.string (mkS l)) ++ [.string (mkS x)]) H v' w') (hH : w.heap.size ≤ H) :
    PieM (w'.setCell ⟨bx, 5, none⟩ v') base bx nm (pieRows ms labs places goals (calls ++ [x]) { v with k := v' }) ∧ OutS (InV bx v) w (w'.setCell ⟨bx, 5, none⟩ v') ∧ ∀ k, InV bx { v with k := v' } k → InV bx v k ∨ w.heap.size ≤ k := by
  obtain ⟨h1, h2, h3⟩ := h.add (i := 4) rfl hap hH
  have e := rStrs_snoc v.k v' calls x
  rw [e] at h1 h3
  exact ⟨h1, h2.wider fun k _ hk => inPie_iff.1 hk, fun k hk => (h3 k (inV_pie (v := { v with k := v' }) hk)).imp inPie_iff.1 id⟩
theorem pie_addCode (h : PieM w base bx nm (pieRows ms labs places goals calls v)) {m : Mac} {v' : Value} {w' : World} {H : Nat} (hap : Appended w base 39 5 v.c (ms.length + 1) (cellsS ms ++ m.cells) H v' w') (hH : w.heap.size ≤ H) :
    PieM (w'.setCell ⟨bx, 1, none⟩ v') base bx nm (pieRows (ms ++ [m]) labs places goals calls { v with c := v' }) ∧ OutS (InV bx v) w (w'.setCell ⟨bx, 1, none⟩ v') ∧ ∀ k, InV bx { v with c := v' } k → InV bx v k ∨ w.heap.size ≤ k := by
  obtain ⟨h1, h2, h3⟩ := h.add (i := 0) rfl hap hH
  have e : (⟨(rMacs v.c ms).e, (rMacs v.c ms).size, v', (rMacs v.c ms).n + 1, cellsS ms ++ m.cells⟩ : Rw) = rMacs v' (ms ++ [m]) := by
    simp [rMacs, cellsS]
  rw [e] at h1 h3
  exact ⟨h1, h2.wider fun k _ hk => inPie_iff.1 hk, fun k hk => (h3 k (inV_pie (v := { v with c := v' }) hk)).imp inPie_iff.1 id⟩
end
/-- How far no label is this one. -/
def NoLab (labs : List Int) (n : Int) (i : Nat) : Prop := ∀ x ∈ labs.take i, x ≠ n
theorem NoLab.next {labs : List Int} {n x : Int} {i : Nat} (h : NoLab labs n i) (hx : labs[i]? = some x) (hn : x ≠ n) : NoLab labs n (i + 1) := by
  intro y hy
  rw [List.take_add_one, hx] at hy
  rcases List.mem_append.1 hy with hy | hy
  · exact h y hy
  · simp at hy
    subst hy
    exact hn
theorem labs_any (labs : List (Int × Nat)) (n : Int) : (labs.any fun x => x.1 == n) = (labsI labs).any fun x => x == n := by
  unfold labsI
  rw [List.any_map]
  rfl
section
variable {base bx : Nat} {nm : List UInt8} {st : PSt} {v : Pv}
set_option maxRecDepth 100000 in
set_option maxHeartbeats 4000000 in
theorem pline_label (nb : Bool) (s : List UInt8) (hs : s.length ≤ 1000000) (hc : s.getLast? = some 58) (w : World) (hM : Pie w base bx nm st v) (hbase : base ≤ w.heap.size) (hl : st.labs.length ≤ 1000000) (hl2 : st.code.length ≤ 1000000) :
    Calls Tryz.prog 29 #[.pointer (some ⟨bx, 0, none⟩), .string (mkS s), .bool nb] w (PLinePost w base bx nm v (lineP nb st s)) := by
  obtain ⟨k, hk⟩ : ∃ k, s.length = k + 1 := ⟨s.length - 1, by cases s with | nil => simp at hc | cons a l => simp⟩
  have hz : (mkS s).size = k + 1 := by rw [mkS_size, hk]
  have hlt : k < (mkS s).size := by omega
  have hx : ((mkS s)[k].toNat : Int) = 58 := by
    rw [at_mk s k hlt]
    rw [List.getLast?_eq_getElem?, hk, Nat.add_sub_cancel] at hc
    rw [List.getD_eq_getElem?_getD, hc]
    rfl
  have hex : (mkS s).extract 0 k = mkS s.dropLast := by
    rw [cut_mk, List.drop_zero, List.dropLast_eq_take, hk, Nat.add_sub_cancel]
  have HEx := Lib.hid hex
  have HL := Lib.hid (readLabel_any s.dropLast (by rw [List.length_dropLast]; omega) w)
  have HM := Lib.hid hM
  have HE : Hid (lineP nb st s = match labI s.dropLast with
    | none => (1, st)
    | some n => if (st.labs.any fun x => x.1 == n) = true then (7, st) else (0, ⟨st.code, st.labs ++ [(n, st.code.length)]⟩)) := Lib.hid (by unfold lineP; rw [if_pos hc]; rfl)
  have hk1 : k + 1 ≤ 1000000 := by omega
  have hsub : ((k + 1 : Nat) : Int) - 1 = (k : Int) := by omega
  obtain ⟨l, hlab⟩ : ∃ l, labN s.dropLast = l := ⟨_, rfl⟩
  have Hlab := Lib.hid hlab
  rw [hlab] at HL
  have HB := Lib.hid hbase
  obtain ⟨⟨cA, cc, hcv⟩, ⟨lA, lc, hlv⟩, ⟨pA, pc, hpv⟩, _⟩ := pie_len hM
  obtain ⟨vc, vl, vp, vg, vk⟩ := v
  simp only at hcv hlv hpv
  subst hcv hlv hpv
  obtain ⟨cn, hcn⟩ : ∃ cn, (st.code.map fun x => x.m).length = cn := ⟨_, rfl⟩
  obtain ⟨ln, hln⟩ : ∃ ln, (labsI st.labs).length = ln := ⟨_, rfl⟩
  obtain ⟨pn, hpn⟩ : ∃ pn, (placesI st.labs).length = pn := ⟨_, rfl⟩
  have hlm : ln ≤ 1000000 := by rw [← hln]; unfold labsI; rw [List.length_map]; exact hl
  have hpm : pn ≤ 1000000 := by rw [← hpn]; unfold placesI; rw [List.length_map]; exact hl
  have hcm : cn ≤ 1000000 := by rw [← hcn, List.length_map]; exact hl2
  have Hcn := Lib.hid hcn
  have Hln := Lib.hid hln
  have Hpn := Lib.hid hpn
  rw [hcn, hln, hpn] at HM ⊢
  have m2 : w.cell? ⟨bx, 2, none⟩ = some (.slice lA ln lc) := HM.out.blk.cell 2
  clear hM hc hs hk hlab hl hl2 hbase hcn hln hpn
  go_enter Tryz.func29, Tryz.ntmps29
  go_wp2_with fail
  refine HL.out.mono ?_
  rintro e w1 ⟨rfl, rfl⟩
  cases hlab : labI s.dropLast with
  | none =>
    obtain rfl : l = -1 := by rw [← Hlab.out]; unfold labN; rw [hlab]; rfl
    have H1 : Hid (lineP nb st s = (1, st)) := Lib.hid (by rw [HE.out, hlab])
    clear hlab
    go_wp2_with fail
    go_ret
    rw [H1.out]
    exact ⟨rfl, OutS.refl _ _, fun h => by cases h⟩
  | some n =>
    obtain rfl : n = l := by rw [← Hlab.out]; unfold labN; rw [hlab]; rfl
    have hp := (labI_pos hlab).2
    have hn0 : ¬ n < 0 := by omega
    have HE1 : Hid (lineP nb st s = if ((labsI st.labs).any fun x => x == n) = true then (7, st) else (0, ⟨st.code, st.labs ++ [(n, st.code.length)]⟩)) := Lib.hid (by rw [HE.out, hlab, ← labs_any])
    have H0 : Hid (NoLab (labsI st.labs) n 0) := Lib.hid (fun x h => by simp at h)
    clear hlab HE HL
    go_wp2_with fail
    clear m2
    go_loopg [8] ln (fun gk iv wx => ∃ i : Nat, iv = .int .i64 (i : Int) ∧ i + gk = ln ∧ Hid (NoLab (labsI st.labs) n i) ∧ wx = w)
    case atStart => exact ⟨0, rfl, by omega, H0, rfl⟩
    case round =>
      obtain ⟨i, rfl, hi, HN, rfl⟩ := hrel
      clear H0
      have m2 : wr.cell? ⟨bx, 2, none⟩ = some (.slice lA ln lc) := HM.out.blk.cell 2
      rcases gk with _ | gk
      · obtain rfl : i = ln := by omega
        have H1 : Hid (lineP nb st s = (0, ⟨st.code, st.labs ++ [(n, st.code.length)]⟩)) := Lib.hid (by
          rw [HE1.out, if_neg]
          intro h
          obtain ⟨x, hx, hxn⟩ := List.any_eq_true.1 h
          exact HN.out x (by rw [← Hln.out, List.take_length]; exact hx) (beq_iff_eq.1 hxn))
        clear HN
        have HOw : Hid (wr.ownsRow base 3 1 (.slice lA i lc) i ((labsI st.labs).map (Value.int .i64))) := Lib.hid (by
          have h : wr.ownsRow base 3 1 (.slice lA i lc) (labsI st.labs).length ((labsI st.labs).map (Value.int .i64)) := (PieM.at_ HM.out (i := 1) rfl).1
          rw [Hln.out] at h
          exact h)
        have HBl : Hid (Blk wr bx 63 #[.string (mkS nm), .slice cA cn cc, .slice lA i lc, .slice pA pn pc, vg, vk]) := Lib.hid HM.out.blk
        go_wp2_with (at_builtin; refine app_one rfl _ _ 29 3 rfl (.int .i64 0) 1 8 Tryz.underlying29 infoInt rfl (by decide) (by decide) base _ _ _ (by rfl) HOw.out _ [.int .i64 n] (by rfl) rfl (fun x hx => by simp at hx; subst hx; rfl) rfl (by omega) HB.out ?_; intro v5 w5 HA5; obtain ⟨B4, c4, e4⟩ := row_form HA5.out.own; subst e4; have hb5 := HA5.out.blk HOw.out HBl.out (by decide); have m2b := hb5.cell 2; have f2b := hb5.frozen 2; simp only [List.getElem?_toArray, List.getElem?_cons_succ, List.getElem?_cons_zero] at m2b)
        obtain ⟨q1, q2, q3⟩ := pie_addLab HM.out (x := n) (by rw [Hln.out]; exact HA5.out) (Nat.le_succ _)
        obtain ⟨W2, hW2⟩ : ∃ W2, w5.setCell ⟨bx, 2, none⟩ (.slice B4 (i + 1) c4) = W2 := ⟨_, rfl⟩
        rw [hW2] at q1 q2 ⊢
        have hz2 : base ≤ W2.heap.size := Nat.le_trans HB.out q2.size
        clear hW2 HA5 m2 HOw HBl
        obtain ⟨W3, hW3⟩ : ∃ W3, W2.drew = W3 := ⟨_, rfl⟩
        have hM3 : PieM W3 base bx nm (pieRows (st.code.map fun x => x.m) (labsI st.labs ++ [n]) (placesI st.labs) (st.code.map goalI) (st.code.map callI) ⟨.slice cA cn cc, .slice B4 (i + 1) c4, .slice pA pn pc, vg, vk⟩) := by rw [← hW3]; exact q1.stay fun _ _ => rfl
        have hz3 : base ≤ W3.heap.size := by rw [← hW3]; exact hz2
        have hpl : (rInts (.slice pA pn pc) (placesI st.labs)).n = pn := Hpn.out
        have hown : W3.ownsRow base 3 1 (.slice pA pn pc) pn ((placesI st.labs).map (Value.int .i64)) := by
          have h : W3.ownsRow base 3 1 (.slice pA pn pc) (placesI st.labs).length ((placesI st.labs).map (Value.int .i64)) := (hM3.at_ (i := 2) rfl).1
          rw [Hpn.out] at h
          exact h
        obtain ⟨B5, c5, W4, hr, hap⟩ := run_app_one (P := Tryz.prog) (w := W3) 29 29 3 _ 1 8 Tryz.underlying29 infoInt rfl (by decide) (by decide) base _ _ _ hown [.int .i64 (cn : Int)] rfl (fun u hu => by simp at hu; subst hu; rfl) (by omega) hz3
        obtain ⟨r1, r2, r3⟩ := pie_addPlace hM3 (x := (cn : Int)) (by rw [Hpn.out]; exact hap) (Nat.le_succ _)
        have hbl3 : Blk W3 bx 63 #[.string (mkS nm), .slice cA cn cc, .slice B4 (i + 1) c4, .slice pA pn pc, vg, vk] := hM3.blk
        have hbx := hap.blk hown hbl3 (by decide)
        have HF : Hid (∀ w', w' = W3 ∨ w' = W3.alloc (.cells #[.int .i64 (cn : Int)] 3) ∨ w' = W4 → w'.cell? ⟨bx, 3, none⟩ = some (.slice pA pn pc) ∧ w'.cell? ⟨bx, 1, none⟩ = some (.slice cA cn cc)) := Lib.hid (by
          rintro w' (rfl | rfl | rfl)
          · exact ⟨hbl3.cell 3, hbl3.cell 1⟩
          · exact ⟨(hbl3.alloc _).cell 3, (hbl3.alloc _).cell 1⟩
          · exact ⟨hbx.cell 3, hbx.cell 1⟩)
        have e3 := hbx.cell 3
        have f3 := hbx.frozen 3
        simp only [List.getElem?_toArray, List.getElem?_cons_succ, List.getElem?_cons_zero] at e3
        have Hr := Lib.hid hr
        have HO : Hid (OutS (InV bx ⟨.slice cA cn cc, .slice lA i lc, .slice pA pn pc, vg, vk⟩) wr (W4.setCell ⟨bx, 3, none⟩ (.slice B5 (pn + 1) c5))) := Lib.hid (by
          rw [← hW3] at r2
          exact q2.trans r2.drewn fun k hk h => (q3 k h).elim id fun h => by omega)
        have HK : Hid (∀ k, InV bx ⟨.slice cA cn cc, .slice B4 (i + 1) c4, .slice B5 (pn + 1) c5, vg, vk⟩ k → InV bx ⟨.slice cA cn cc, .slice lA i lc, .slice pA pn pc, vg, vk⟩ k ∨ wr.heap.size ≤ k) := Lib.hid fun k hk => by
          rcases r3 k hk with h | h
          · exact q3 k h
          · refine .inr (Nat.le_trans q2.size ?_)
            rw [← hW3] at h
            exact h
        have HR := Lib.hid r1
        have HW3 := Lib.hid hW3
        clear q1 q2 q3 hz2 hW3 hM3 hz3 hpl hown hr hap r1 r2 r3 hbl3 hbx
        refine wp_region_lex (Three W3 (W3.alloc (.cells #[.int .i64 (cn : Int)] 3)) W4 (W4.setCell ⟨bx, 3, none⟩ (.slice B5 (pn + 1) c5)) 10 11 14 12) (by kernel_rfl) (by kernel_rfl) (by have h : ({ W2 with drawn := W2.drawn + 1 } : World) = W3 := HW3.out; rw [h]; exact Three.start) ?_
        iterate 10
          apply wpLex_step
          · rfl
          · intro L w' hC hL hd
            clear hd
            have F := HF.out w' (hC.pend hL (by decide))
            have HC := Lib.hid hC
            clear hC
            go_simp
            exact ⟨HC.out.keep _ (by decide) (by decide) (by decide), rfl⟩
          simp only [Act.put, List.setIfInBounds_toArray, List.set_cons_succ, List.set_cons_zero, Nat.reduceAdd]
        apply wpLex_step
        · rfl
        · intro L w' hC hL hd
          obtain ⟨hw, hC2⟩ := hC.at1 hL (by decide) (by decide) (by decide)
          subst hw
          have HC2 := Lib.hid hC2
          clear hd hC hL hC2
          go_simp
          exact ⟨HC2.out, rfl⟩
        simp only [Act.put, List.setIfInBounds_toArray, List.set_cons_succ, List.set_cons_zero, Nat.reduceAdd]
        apply wpLex_step
        · rfl
        · intro L w' hC hL hd
          obtain ⟨hw, hC2⟩ := hC.at2 hL (hd ⟨10, .data⟩ (by simp) rfl) (by decide) (by decide)
          subst hw
          rw [exec_app (.tmp 65) (.tmp 71) 29 29 rfl _ _ _ _ rfl rfl Hr.out]
          exact ⟨hC2, rfl⟩
        simp only [Act.put, List.setIfInBounds_toArray, List.set_cons_succ, List.set_cons_zero, Nat.reduceAdd]
        iterate 2
          apply wpLex_step
          · rfl
          · intro L w' hC hL hd
            clear hd
            have HC := Lib.hid hC
            clear hC
            go_simp
            exact ⟨HC.out.keep _ (by decide) (by decide) (by decide), rfl⟩
          simp only [Act.put, List.setIfInBounds_toArray, List.set_cons_succ, List.set_cons_zero, Nat.reduceAdd]
        apply wpLex_step
        · rfl
        · intro L w' hC hL hd
          obtain ⟨hw, hC2⟩ := hC.at3 hL (cover (m := 12) (by kernel_rfl) hd) (by decide) (by decide)
          subst hw
          have HC2 := Lib.hid hC2
          clear hd hC hL hC2
          go_simp
          exact ⟨HC2.out, rfl⟩
        simp only [Act.put, Nat.reduceAdd]
        apply wpLex_nil
        intro L w' hC hd
        obtain rfl := hC.end_ (hd 14 (by decide))
        clear hC hd
        go_wp2_with fail
        go_ret
        rw [H1.out]
        refine ⟨rfl, HO.out, fun _ => ⟨_, ?_, HK.out⟩⟩
        unfold Pie
        have e1 : labsI (st.labs ++ [(n, st.code.length)]) = labsI st.labs ++ [n] := by simp [labsI]
        have e2 : placesI (st.labs ++ [(n, st.code.length)]) = placesI st.labs ++ [(cn : Int)] := by rw [← Hcn.out]; simp [placesI]
        simp only [e1, e2]
        exact HR.out
      · have hil : i < ln := by omega
        obtain ⟨x, hx⟩ : ∃ x, (labsI st.labs)[i]? = some x := ⟨(labsI st.labs)[i]'(by rw [Hln.out]; exact hil), List.getElem?_eq_getElem _⟩
        obtain ⟨b, c, hbv, hbc⟩ := pie_lab HM.out hx
        obtain rfl : lA = some ⟨b, 0, none⟩ := (Value.slice.inj hbv).1
        have k0 : (0 : Int) ≤ (i : Int) := Int.natCast_nonneg i
        have k1 : (i : Int) < (ln : Int) := by omega
        by_cases hxn : x = n
        · subst hxn
          have H1 : Hid (lineP nb st s = (7, st)) := Lib.hid (by
            have h : ((labsI st.labs).any fun y => y == x) = true := List.any_eq_true.2 ⟨x, List.mem_of_getElem? hx, beq_self_eq_true x⟩
            rw [HE1.out, if_pos h])
          clear hx hbv
          go_wp2_with fail
          go_ret
          rw [H1.out]
          exact ⟨rfl, OutS.refl _ _, fun h => by cases h⟩
        · have hxb : (x == n) = false := beq_false_of_ne hxn
          have HN2 := Lib.hid (HN.out.next hx hxn)
          clear hx hbv hxn
          go_wp2_with fail
          go_roundg gk
          case measure => omega
          case rel => exact ⟨i + 1, by go_num, by omega, HN2, rfl⟩
end
end Go.Proofs.YtdldochhondifaaGreatDoor
