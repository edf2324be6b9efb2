/-
  Texts of the claim AsmWholeSays (AtF): what each proves stands at its theorems.
  Conditions: as the theorems say.
-/
import Derived.Deep.CutBlock
import Derived.Test.YtdldochhondifaaGreatDoorVAtE
import Derived.Test.YtdldochhondifaaGreatDoorVAsF
namespace Go.Proofs.YtdldochhondifaaGreatDoor
open Go.RowKit
attribute [local go_sem] Oper.semAt_some

def WordTo (s : List UInt8) (k : Nat) : Prop := ∀ b ∈ s.take k, bl b = false
theorem WordTo.next {s : List UInt8} {k : Nat} (h : WordTo s k) (hk : k < s.length) (hb : bl (s.getD k 0) = false) : WordTo s (k + 1) := by
  intro b hm
  rw [take_snoc hk] at hm
  rcases List.mem_append.1 hm with hm | hm
  · exact h b hm
  · rw [List.mem_singleton] at hm
    subst hm
    exact hb
theorem word_end : ∀ {s : List UInt8} {k : Nat}, WordTo s k → k ≤ s.length → (s.length ≤ k ∨ bl (s.getD k 0) = true) → s.take k = wordP s ∧ s.drop k = s.dropWhile (fun c => !bl c)
  | s, 0, _, _, he => by
    cases s with
    | nil => exact ⟨rfl, rfl⟩
    | cons a l =>
      have ha : bl a = true := by
        rcases he with h | h
        · simp at h
        · exact h
      unfold wordP
      constructor
      · rw [List.takeWhile_cons, ha]; rfl
      · rw [List.dropWhile_cons, ha]; rfl
  | [], k + 1, _, hk, _ => by simp at hk
  | a :: l, k + 1, h, hk, he => by
    have ha : bl a = false := h a (by simp)
    have hl : WordTo l k := fun b hb => h b (by rw [List.take_succ_cons]; exact List.mem_cons_of_mem _ hb)
    obtain ⟨h1, h2⟩ := word_end hl (by simpa using hk) (by
      rcases he with h | h
      · exact .inl (by simpa using h)
      · exact .inr (by simpa using h))
    unfold wordP at h1 ⊢
    constructor
    · rw [List.take_succ_cons, List.takeWhile_cons, ha, h1]; rfl
    · rw [List.drop_succ_cons, List.dropWhile_cons, ha, h2]; rfl
/-- How far no instruction fits. -/
def NoOp (wd : List UInt8) (p : List (List UInt8)) (n : Nat) : Prop := ∀ k : Nat, k + 1 < n → fitP wd p ((k : Int) + 1) = false
theorem NoOp.next {wd : List UInt8} {p : List (List UInt8)} {n : Nat} (h : NoOp wd p n) (hf : fitP wd p (n : Int) = false) : NoOp wd p (n + 1) := by
  intro k hk
  by_cases e : k + 1 = n
  · rw [← e] at hf
    exact hf
  · exact h k (by omega)
theorem NoOp.none {wd : List UInt8} {p : List (List UInt8)} {n : Nat} (h : NoOp wd p n) (hn : 48 ≤ n) : opP wd p = none := by
  refine opP_none fun op hop => ?_
  have := (isOp_iff op).1 hop
  have h1 := h (op.toNat - 1) (by omega)
  rw [show ((op.toNat - 1 : Nat) : Int) + 1 = op by omega] at h1
  exact h1
theorem NoOp.some {wd : List UInt8} {p : List (List UInt8)} {n : Nat} (h : NoOp wd p n) (hn : 1 ≤ n ∧ n ≤ 47) (hf : fitP wd p (n : Int) = true) : opP wd p = some (n : Int) := by
  refine opP_some ((isOp_iff _).2 (by omega)) hf fun op hop hlt => ?_
  have := (isOp_iff op).1 hop
  have h1 := h (op.toNat - 1) (by omega)
  rw [show ((op.toNat - 1 : Nat) : Int) + 1 = op by omega] at h1
  exact h1
theorem fit_word_ne {wd : List UInt8} {p : List (List UInt8)} {op : Int} (h : wordL op ≠ wd) : fitP wd p op = false := fit_word h
theorem fit_len_ne {wd : List UInt8} {p : List (List UInt8)} {op : Int} (h : (ordL op).length ≠ p.length) : fitP wd p op = false := by
  unfold fitP
  rw [decide_eq_false h, Bool.and_false]
  rfl
theorem fit_rest {wd : List UInt8} {p : List (List UInt8)} {op : Int} (h1 : wordL op = wd) (h2 : (ordL op).length = p.length) : fitP wd p op = (!decide (5 ≤ op ∧ op ≤ 32) || ((regI (p.getD 2 [])).isSome == decide (op < 19))) := by
  unfold fitP
  rw [decide_eq_true h1, decide_eq_true h2]
  rfl
theorem str_facts {a b : List UInt8} (h : a ≠ b) : ((mkS a).toList == (mkS b).toList) = false ∧ ¬ (mkS a).toList = (mkS b).toList ∧ ((mkS a).toList != (mkS b).toList) = true := by
  have h1 : ((mkS a).toList == (mkS b).toList) = false := by rw [str_eq]; exact decide_eq_false h
  exact ⟨h1, by rw [mkS_toList, mkS_toList]; exact h, by unfold bne; rw [h1]; rfl⟩
theorem fields_step {nb : Bool} {x : Ins} {cs : List UInt8} {p : List (List UInt8)} {i : Nat} {c : UInt8} {y : List UInt8} (hc : cs[i]? = some c) (hy : p[i]? = some y) : fieldsP nb x (cs.drop i) (p.drop i) = (fieldP nb x c y).bind fun z => fieldsP nb z (cs.drop (i + 1)) (p.drop (i + 1)) := by
  obtain ⟨h1, h2⟩ := List.getElem?_eq_some_iff.1 hc
  rw [drop_at hy, List.drop_eq_getElem_cons h1, h2, fieldsP]
section
variable {base bx : Nat} {nm : List UInt8} {st : PSt} {v : Pv}
set_option maxRecDepth 100000 in
set_option maxHeartbeats 8000000 in
theorem pline_ins (nb : Bool) (s : List UInt8) (hs : s.length ≤ 900000) (hok : LineOk s) (hc : ¬ s.getLast? = some 58) (w : World) (hM : Pie w base bx nm st v) (hbase : base ≤ w.heap.size) (hl2 : st.code.length ≤ 1000000) :
    Calls Tryz.prog 29 #[.pointer (some ⟨bx, 0, none⟩), .string (mkS s), .bool nb] w (PLinePost w base bx nm v (lineP nb st s)) := by
  obtain ⟨k, hk⟩ : ∃ k, s.length = k + 1 := ⟨s.length - 1, by have := hok.1; cases s with | nil => exact absurd rfl this | cons a l => simp⟩
  have hz : (mkS s).size = k + 1 := by rw [mkS_size, hk]
  have hlt : k < (mkS s).size := by omega
  have hx : (((mkS s)[k].toNat : Int) == 58) = false := by
    rw [at_mk s k hlt]
    rw [List.getLast?_eq_getElem?, hk, Nat.add_sub_cancel] at hc
    have hkl : k < s.length := by omega
    exact byte_ne (k := 58) (fun e => hc (by rw [List.getElem?_eq_getElem hkl]; rw [List.getD_eq_getElem?_getD, List.getElem?_eq_getElem hkl] at e; exact congrArg some e))
  have HE : Hid (lineP nb st s = match opP (wordP s) (cutsL (tailP s)) with
    | none => (1, st)
    | some op => match fieldsP nb (ins0 op) (ordL op) (cutsL (tailP s)) with
      | none => (1, st)
      | some x => (0, ⟨st.code ++ [x], st.labs⟩)) := Lib.hid (by unfold lineP; rw [if_neg hc]; rfl)
  have hk1 : k + 1 ≤ 900000 := by omega
  have hsub : ((k + 1 : Nat) : Int) - 1 = (k : Int) := by omega
  obtain ⟨⟨cA, cc, hcv⟩, _, _, ⟨gA, gc, hgv⟩, ⟨kA, kc, hkv⟩⟩ := pie_len hM
  obtain ⟨vc, vl, vp, vg, vk⟩ := v
  simp only [List.length_map] at hcv hgv hkv
  subst hcv hgv hkv
  obtain ⟨cn, hcn⟩ : ∃ cn, st.code.length = cn := ⟨_, rfl⟩
  have Hcn := Lib.hid hcn
  rw [hcn] at hM hl2 ⊢
  have HM := Lib.hid hM
  have HB := Lib.hid hbase
  have Hok := Lib.hid hok
  have Hk := Lib.hid hk
  have H0 : Hid (WordTo s 0) := Lib.hid (fun b h => by simp at h)
  clear hM hc hs hk hcn hbase hok
  go_enter Tryz.func29, Tryz.ntmps29
  go_upto_block 2 with fail
  clear hx hsub hlt
  go_cut [9] from 75 to 92 (fun u9 wx => ∃ e : Nat, u9 = .int .i64 (e : Int) ∧ e ≤ k + 1 ∧ Hid (s.take e = wordP s ∧ s.drop e = s.dropWhile (fun c => !bl c)) ∧ wx = w)
  case first =>
    go_wp2_with fail
    go_loopg [9] (k + 1) (fun gk iv wx => ∃ i : Nat, iv = .int .i64 (i : Int) ∧ i + gk = k + 1 ∧ Hid (WordTo s i) ∧ wx = w)
    case atStart => exact ⟨0, rfl, by omega, H0, rfl⟩
    case round =>
      obtain ⟨i, rfl, hi, HW, rfl⟩ := hrel
      clear H0
      rcases gk with _ | gk
      · obtain rfl : i = k + 1 := by omega
        have HD : Hid (s.take (k + 1) = wordP s ∧ s.drop (k + 1) = s.dropWhile (fun c => !bl c)) := Lib.hid (word_end HW.out (by rw [Hk.out]; exact Nat.le_refl _) (.inl (by rw [Hk.out]; exact Nat.le_refl _)))
        go_wp2_with fail
        go_meet
        exact ⟨k + 1, rfl, Nat.le_refl _, HD, rfl⟩
      · have hil : i < (mkS s).size := by omega
        have hik : (i : Int) < (k : Int) + 1 := by omega
        cases hb : bl (s.getD i 0) with
        | false =>
          have HN := Lib.hid (HW.out.next (by rw [Hk.out]; omega) hb)
          have hb1 : (((mkS s)[i].toNat : Int) == 32) = false := by rw [at_mk s i hil]; exact byte_ne (k := 32) (not_bl hb).1
          have hb2 : (((mkS s)[i].toNat : Int) == 9) = false := by rw [at_mk s i hil]; exact byte_ne (k := 9) (not_bl hb).2
          have hb3 : (((mkS s)[i].toNat : Int) != 32) = true := by unfold bne; rw [hb1]; rfl
          have hb4 : (((mkS s)[i].toNat : Int) != 9) = true := by unfold bne; rw [hb2]; rfl
          clear hb hb1 hb2
          go_wp2_with fail
          go_roundg gk
          case measure => omega
          case rel => exact ⟨i + 1, by go_num, by omega, HN, rfl⟩
        | true =>
          have HD : Hid (s.take i = wordP s ∧ s.drop i = s.dropWhile (fun c => !bl c)) := Lib.hid (word_end HW.out (by rw [Hk.out]; omega) (.inr hb))
          have hik2 : i ≤ k + 1 := by omega
          rcases (bl_iff _).1 hb with h2 | h2
          · have hb1 : ((mkS s)[i].toNat : Int) = 32 := by rw [at_mk s i hil, h2]; rfl
            clear hb h2
            go_wp2_with fail
            go_meet
            exact ⟨i, rfl, hik2, HD, rfl⟩
          · have hb1 : ((mkS s)[i].toNat : Int) = 9 := by rw [at_mk s i hil, h2]; rfl
            clear hb h2
            go_wp2_with fail
            go_meet
            exact ⟨i, rfl, hik2, HD, rfl⟩
  case rest =>
    obtain ⟨e, rfl, hek, HD, rfl⟩ := hcut
    rename World => w0
    obtain ⟨dl, hdl⟩ : ∃ dl, (s.dropWhile fun c => !bl c) = dl := ⟨_, rfl⟩
    obtain ⟨wd, hwd⟩ : ∃ wd, wordP s = wd := ⟨_, rfl⟩
    obtain ⟨tl, htl⟩ : ∃ tl, tailP s = tl := ⟨_, rfl⟩
    obtain ⟨t1, t2⟩ := tail_trim Hok.out
    rw [hdl] at t1 t2
    rw [htl] at t1
    have hx1 : (mkS s).extract 0 e = mkS wd := by rw [cut_mk, List.drop_zero, HD.out.1, hwd]
    have hx2 : (mkS s).extract e (k + 1) = mkS dl := by rw [cut_mk, ← Hk.out, List.take_length, HD.out.2, hdl]
    have hdn : dl.length ≤ 900000 := by
      rw [← hdl]
      have := (List.dropWhile_suffix (fun c => !bl c) (l := s)).length_le
      have := Hk.out
      omega
    have htn : tl.length ≤ 900000 := by rw [← t1]; exact Nat.le_trans (trim_len dl) hdn
    have HCl := Lib.hid (cleaned_any dl (by omega) w0)
    have HT2 := Lib.hid t2
    have HT1 := Lib.hid t1
    have Hwd := Lib.hid hwd
    have htf : ∀ b ∈ tl, b ≠ 10 ∧ b ≠ 59 := fun b hb => t2 b (mem_trim (by rw [t1]; exact hb))
    have HTf := Lib.hid htf
    rw [hwd, htl] at HE
    have he0 : (0 : Int) ≤ (e : Int) := Int.natCast_nonneg e
    have he1 : (e : Int) ≤ (k : Int) + 1 := by omega
    clear hdl hwd htl t1 t2 htf HD
    go_upto_region 17 with fail
    go_wp2_with fail
    refine HCl.out.mono ?_
    rintro e W1 ⟨hp, hb⟩
    obtain ⟨b, c, rfl, hb1, hb2, hcell⟩ := clean_one HT2.out hp
    rw [HT1.out] at hcell
    have HB1 := Lib.hid hb
    clear hp hb hx1 hx2 HCl
    go_upto_if 103 with fail
    clear hcell
    go_cut [12] (fun u12 wx => Hid (OwnS wx w0.heap.size u12 (cutsL tl)) ∧ Hid (Below w0.heap.size w0 wx))
    case first =>
      by_cases ht : tl = []
      · subst ht
        have Q1 : Hid ((!(mkS []).toList.isEmpty) = false) := Lib.hid (by rw [mkS_toList]; rfl)
        go_wp2_with fail
        · exact absurd (Q1.out.symm.trans (by assumption : (!(mkS []).toList.isEmpty) = true)) (by simp)
        go_meet
        exact ⟨Lib.hid (OwnS.nil _ _), HB1⟩
      · have Q1 : Hid ((!(mkS tl).toList.isEmpty) = true) := Lib.hid (by rw [mkS_toList]; cases tl with | nil => exact absurd rfl ht | cons a l => rfl)
        have HPt := Lib.hid (partsOf_any tl (by omega) HTf.out W1)
        have HCut : Hid (cutsL tl = (splitC 44 [] tl).map trimS) := Lib.hid (by unfold cutsL; rw [if_neg ht])
        clear ht
        go_wp2_with fail
        rotate_left
        · rename_i h
          exact absurd (Q1.out.symm.trans h) (by simp)
        refine HPt.out.mono ?_
        rintro e W5 ⟨⟨v5, rfl, hv⟩, hb⟩
        rw [← HCut.out] at hv
        have HV := Lib.hid (hv.more HB1.out.size)
        have HB5 := Lib.hid (HB1.out.trans (hb.mono HB1.out.size))
        clear hv hb
        go_wp2_with fail
        go_meet
        exact ⟨HV, HB5⟩
    case rest =>
      obtain ⟨HP, HB2⟩ := hcut
      rename World => W2
      obtain ⟨p, hp⟩ : ∃ p, cutsL tl = p := ⟨_, rfl⟩
      have hpn : p.length ≤ 900001 ∧ ∀ x ∈ p, x.length ≤ 1000000 := by
        rw [← hp]
        unfold cutsL
        split
        · exact ⟨by simp, by simp⟩
        · refine ⟨by rw [List.length_map]; have := splitC_len 44 tl []; omega, fun x hx => ?_⟩
          obtain ⟨y, hy, rfl⟩ := List.mem_map.1 hx
          have h1 := splitC_size 44 tl [] y hy
          have h2 := trim_len y
          simp at h1
          omega
      have Hpl := Lib.hid hpn.2
      rw [hp] at HP HE
      obtain ⟨pA, pc, hpe⟩ := HP.out.len
      obtain ⟨pn, hpn2⟩ : ∃ pn, p.length = pn := ⟨_, rfl⟩
      have Hpn := Lib.hid hpn2
      have hpm : pn ≤ 900001 := by rw [← hpn2]; exact hpn.1
      rw [hpn2] at hpe
      subst hpe
      clear hp hpn hpn2
      have N0 : Hid (NoOp wd p 1) := Lib.hid (fun k h => by omega)
      go_wp2_with fail
      go_loopg [13] 47 (fun gk iv wx => ∃ op : Nat, iv = .int .i64 (op : Int) ∧ op + gk = 48 ∧ 1 ≤ op ∧ Hid (NoOp wd p op) ∧ Hid (Below W2.heap.size W2 wx))
      case atStart => exact ⟨1, rfl, by omega, by omega, N0, Lib.hid (Below.refl _ _)⟩
      case round =>
        obtain ⟨op, rfl, hop, hop1, HN, HBr⟩ := hrel
        clear N0
        rcases gk with _ | gk
        · obtain rfl : op = 48 := by omega
          have H1 : Hid (lineP nb st s = (1, st)) := Lib.hid (by rw [HE.out, HN.out.none (by omega)])
          clear HE
          go_wp2_with fail
          go_ret
          rw [H1.out]
          exact ⟨rfl, outS_of (HB2.out.trans (HBr.out.mono HB2.out.size)), fun h => by cases h⟩
        · have hop47 : op ≤ 47 := by omega
          have hlt : (op : Int) < 48 := by omega
          have hisop : isOp (op : Int) = true := (isOp_iff _).2 (by omega)
          have Hisop := Lib.hid hisop
          have HOr := Lib.hid (asmOrder_any (op : Int) wr)
          have HWo := Lib.hid (fun W => asmWord_any (op : Int) hisop W)
          have hfz : (mkS (ordL (op : Int))).size = (ordL (op : Int)).length := mkS_size _
          obtain ⟨fl, hfl⟩ : ∃ fl, (ordL (op : Int)).length = fl := ⟨_, rfl⟩
          have Hfl := Lib.hid hfl
          rw [hfl] at hfz
          have hfm : fl ≤ 3 := by
            have key : ∀ k : Fin 48, (ordL (k.val : Int)).length ≤ 3 := by decide +kernel
            rw [← hfl]
            exact key ⟨op, by omega⟩
          clear hisop hfl
          go_wp2_with fail
          refine HOr.out.mono ?_
          rintro e W3 ⟨rfl, hb3⟩
          have HB3 := Lib.hid (HBr.out.trans (hb3.mono HBr.out.size))
          have HWo3 := Lib.hid (HWo.out W3)
          clear hb3 HOr HWo
          go_wp2_with fail
          refine HWo3.out.mono ?_
          rintro e W4 ⟨rfl, hb4⟩
          have HB4 := Lib.hid (HB3.out.trans (hb4.mono HB3.out.size))
          clear hb4 HWo3
          by_cases hw : wordL (op : Int) = wd
          · rw [hw]
            by_cases hlen : fl = pn
            · subst hlen
              have HFit : Hid (fitP wd p (op : Int) = (!decide (5 ≤ (op : Int) ∧ (op : Int) ≤ 32) || ((regI (p.getD 2 [])).isSome == decide ((op : Int) < 19)))) := Lib.hid (fit_rest hw (by rw [Hfl.out, Hpn.out]))
              clear hw
              go_upto_region 26 with fail
              go_cut [128] from 123 to 128 (fun u wx => u = .bool (decide (5 ≤ op ∧ op ≤ 32)) ∧ wx = W4)
              case first =>
                rcases (by omega : op < 5 ∨ (5 ≤ op ∧ op ≤ 32) ∨ 32 < op) with h5 | ⟨h5, h6⟩ | h5
                · have h5' : ¬ (op : Int) ≥ 5 := by omega
                  have hd : decide (5 ≤ op ∧ op ≤ 32) = false := decide_eq_false (by omega)
                  have Hd := Lib.hid hd
                  clear hd
                  go_wp2_with fail
                  go_meet
                  exact ⟨by rw [Hd.out], rfl⟩
                · have h5' : (op : Int) ≥ 5 := by omega
                  have h6' : (op : Int) ≤ 32 := by omega
                  have hd : decide (5 ≤ op ∧ op ≤ 32) = true := decide_eq_true (by omega)
                  have Hd := Lib.hid hd
                  clear hd
                  go_wp2_with fail
                  go_meet
                  exact ⟨by rw [Hd.out], rfl⟩
                · have h5' : ¬ (op : Int) ≤ 32 := by omega
                  have h6' : (op : Int) ≥ 5 := by omega
                  have hd : decide (5 ≤ op ∧ op ≤ 32) = false := decide_eq_false (by omega)
                  have Hd := Lib.hid hd
                  clear hd
                  go_wp2_with fail
                  go_meet
                  exact ⟨by rw [Hd.out], rfl⟩
              case rest =>
              obtain ⟨rfl, rfl⟩ := hcut
              rename World => W4
              go_upto_if 128 with fail
              go_cut [15, 16] (fun u15 u16 wx => Hid (fitP wd p (op : Int) = true) ∧ Hid (Below W2.heap.size W2 wx))
              case first =>
                by_cases hr : 5 ≤ op ∧ op ≤ 32
                · have h3 : fl = 3 := by rw [← Hfl.out]; exact ord_arith (by omega)
                  subst h3
                  obtain ⟨y, hy⟩ : ∃ y, p[2]? = some y := ⟨p[2]'(by rw [Hpn.out]; omega), List.getElem?_eq_getElem _⟩
                  have hyl := Hpl.out y (List.mem_of_getElem? hy)
                  have hyd : p.getD 2 [] = y := by rw [List.getD_eq_getElem?_getD, hy]; rfl
                  obtain ⟨b0, c0, e0, hbb, hb0, hcell⟩ := HP.out.at_ hy
                  obtain rfl : pA = some ⟨b0, 0, none⟩ := (Value.slice.inj e0).1
                  have Hr := Lib.hid hr
                  have hcell4 : W4.cell? ⟨b0, 2, none⟩ = some (.string (mkS y)) := (bcell HB4.out hb0).trans hcell
                  have hd : decide (5 ≤ op ∧ op ≤ 32) = true := decide_eq_true hr
                  rw [hd]
                  have HFt : Hid (fitP wd p (op : Int) = ((regI y).isSome == decide ((op : Int) < 19))) := Lib.hid (by rw [HFit.out, decide_eq_true (by omega), hyd]; rfl)
                  have HRg := Lib.hid (readReg_any y (by omega) W4)
                  obtain ⟨bb, hbb2⟩ : ∃ bb, decide ((op : Int) < 19) = bb := ⟨_, rfl⟩
                  have Hbb := Lib.hid hbb2
                  clear hr hd hy hyd e0 hbb hcell hbb2
                  go_wp2_with fail
                  refine HRg.out.mono ?_
                  rintro e W5 ⟨⟨n, ok, hn, rfl, hdn⟩, rfl⟩
                  have HDn := Lib.hid hdn
                  clear hdn HRg hcell4
                  cases ok with
                  | false =>
                    by_cases h19 : (op : Int) < 19
                    · have HNx := Lib.hid (HN.out.next (by rw [HFt.out, HDn.out, decide_eq_true h19]; rfl))
                      go_wp2_with fail
                      go_roundg gk
                      case measure => omega
                      case rel => exact ⟨op + 1, by go_num, by omega, by omega, HNx, HB4⟩
                    · have hF : Hid (fitP wd p (op : Int) = true) := Lib.hid (by rw [HFt.out, HDn.out, decide_eq_false h19]; rfl)
                      go_wp2_with fail
                      go_meet
                      exact ⟨hF, HB4⟩
                  | true =>
                    by_cases h19 : (op : Int) < 19
                    · have hF : Hid (fitP wd p (op : Int) = true) := Lib.hid (by rw [HFt.out, HDn.out, decide_eq_true h19]; rfl)
                      go_wp2_with fail
                      go_meet
                      exact ⟨hF, HB4⟩
                    · have HNx := Lib.hid (HN.out.next (by rw [HFt.out, HDn.out, decide_eq_false h19]; rfl))
                      have hd19 : (!decide ((op : Int) < 19)) = true := by rw [decide_eq_false h19]; rfl
                      go_wp2_with fail
                      go_roundg gk
                      case measure => omega
                      case rel => exact ⟨op + 1, by go_num, by omega, by omega, HNx, HB4⟩
                · have hF : Hid (fitP wd p (op : Int) = true) := Lib.hid (by rw [HFit.out, decide_eq_false (by omega)]; rfl)
                  have hd : decide (5 ≤ op ∧ op ≤ 32) = false := decide_eq_false hr
                  rw [hd]
                  clear hr hd
                  go_wp2_with fail
                  go_meet
                  exact ⟨hF, HB4⟩
              case rest =>
                obtain ⟨hF, HB5⟩ := hcut
                rename World => W5
                have HOpP : Hid (opP wd p = some (op : Int)) := Lib.hid (HN.out.some ⟨hop1, hop47⟩ hF.out)
                have HE2 : Hid (lineP nb st s = match fieldsP nb (ins0 (op : Int)) (ordL (op : Int)) p with
                  | none => (1, st)
                  | some x => (0, ⟨st.code ++ [x], st.labs⟩)) := Lib.hid (by rw [HE.out, HOpP.out])
                clear hF HFit HN HBr HB4 HOpP
                have HB5w : Hid (Below w0.heap.size w0 W5) := Lib.hid (HB2.out.trans (HB5.out.mono HB2.out.size))
                have HM5 : Hid (Pie W5 base bx nm st ⟨.slice cA cn cc, vl, vp, .slice gA cn gc, .slice kA cn kc⟩) := Lib.hid (PieM.below HM.out HB5w.out)
                have HMb : Hid (Blk (W5.alloc (.cells #[.int .i64 (op : Int), .int .i64 0, .int .i64 0, .int .i64 0, .int .i64 0] 39)) W5.heap.size 39 #[.int .i64 (op : Int), .int .i64 0, .int .i64 0, .int .i64 0, .int .i64 0]) := Lib.hid (Blk.new _ _ _)
                have HB6 : Hid (Below W5.heap.size W5 (W5.alloc (.cells #[.int .i64 (op : Int), .int .i64 0, .int .i64 0, .int .i64 0, .int .i64 0] 39))) := Lib.hid ((Below.refl _ _).alloc (Nat.le_refl _) _)
                have Hlt : Hid (∀ k, InV bx ⟨.slice cA cn cc, vl, vp, .slice gA cn gc, .slice kA cn kc⟩ k → k < W5.heap.size) := Lib.hid fun k hk => PieM.lt HM5.out (inPie_iff.2 hk)
                have Hz6 : Hid (W5.heap.size < (W5.alloc (.cells #[.int .i64 (op : Int), .int .i64 0, .int .i64 0, .int .i64 0, .int .i64 0] 39)).heap.size) := Lib.hid HMb.out.lt
                go_upto_region 30 with fail
                generalize W5.alloc (.cells #[.int .i64 (op : Int), .int .i64 0, .int .i64 0, .int .i64 0, .int .i64 0] 39) = W6 at *
                have HM6 : Hid (Pie W6 base bx nm st ⟨.slice cA cn cc, vl, vp, .slice gA cn gc, .slice kA cn kc⟩) := Lib.hid (PieM.below HM5.out HB6.out)
                have HBl6 : Hid (Blk W6 bx 63 #[.string (mkS nm), .slice cA cn cc, vl, vp, .slice gA cn gc, .slice kA cn kc]) := Lib.hid (PieM.blk HM6.out)
                have HOg : Hid (W6.ownsRow base 3 1 (.slice gA cn gc) cn ((st.code.map goalI).map (Value.int .i64))) := Lib.hid (by
                  have h : W6.ownsRow base 3 1 (.slice gA cn gc) (st.code.map goalI).length ((st.code.map goalI).map (Value.int .i64)) := (PieM.at_ HM6.out (i := 3) rfl).1
                  rw [List.length_map, Hcn.out] at h
                  exact h)
                have HBz6 : Hid (base ≤ W6.heap.size) := Lib.hid (Nat.le_trans HB.out (Nat.le_trans HB5w.out.size HB6.out.size))
                have m4 := HBl6.out.cell 4
                simp only [List.getElem?_toArray, List.getElem?_cons_succ, List.getElem?_cons_zero] at m4
                go_upto_region 31 with (at_builtin; refine app_one rfl _ _ 29 3 rfl (.int .i64 0) 1 8 Tryz.underlying29 infoInt rfl (by decide) (by decide) base _ _ _ (by rfl) HOg.out _ [.int .i64 (-1)] (by rfl) rfl (fun x hx => by simp at hx; subst hx; rfl) rfl (by omega) HBz6.out ?_; intro v7 w7 HA7; obtain ⟨B7, c7, e7⟩ := row_form HA7.out.own; subst e7; have hb7 := HA7.out.blk HOg.out HBl6.out (by decide); have m4b := hb7.cell 4; have f4b := hb7.frozen 4; simp only [List.getElem?_toArray, List.getElem?_cons_succ, List.getElem?_cons_zero] at m4b)
                obtain ⟨q1, q2, q3⟩ := pie_addGoal HM6.out (x := -1) (by rw [List.length_map, Hcn.out]; exact HA7.out) (Nat.le_succ _)
                clear m4 HA7 hb7 m4b f4b
                obtain ⟨W8, hW8⟩ : ∃ W8, w7.setCell ⟨bx, 4, none⟩ (.slice B7 (cn + 1) c7) = W8 := ⟨_, rfl⟩
                rw [hW8] at q1 q2 ⊢
                clear hW8
                have HM8 : Hid (PieM W8 base bx nm (pieRows (st.code.map fun x => x.m) (labsI st.labs) (placesI st.labs) (st.code.map goalI ++ [-1]) (st.code.map callI) ⟨.slice cA cn cc, vl, vp, .slice B7 (cn + 1) c7, .slice kA cn kc⟩)) := Lib.hid q1
                have HQ2 := Lib.hid q2
                have HQ3 := Lib.hid q3
                have HBl8 : Hid (Blk W8 bx 63 #[.string (mkS nm), .slice cA cn cc, vl, vp, .slice B7 (cn + 1) c7, .slice kA cn kc]) := Lib.hid (PieM.blk q1)
                have HOk : Hid (W8.ownsRow base 9 1 (.slice kA cn kc) cn ((st.code.map callI).map fun l => Value.string (mkS l))) := Lib.hid (by
                  have h : W8.ownsRow base 9 1 (.slice kA cn kc) (st.code.map callI).length ((st.code.map callI).map fun l => Value.string (mkS l)) := (PieM.at_ q1 (i := 4) rfl).1
                  rw [List.length_map, Hcn.out] at h
                  exact h)
                have HBz8 : Hid (base ≤ W8.heap.size) := Lib.hid (Nat.le_trans HBz6.out q2.size)
                clear q1 q2 q3
                have m5 := HBl8.out.cell 5
                simp only [List.getElem?_toArray, List.getElem?_cons_succ, List.getElem?_cons_zero] at m5
                go_upto_region 32 with (at_builtin; refine app_one rfl _ _ 36 9 rfl (.string ⟨#[]⟩) 1 16 Tryz.underlying36 infoStr rfl (by decide) (by decide) base _ _ _ (by rfl) HOk.out _ [.string ⟨#[]⟩] (by rfl) rfl (fun x hx => by simp at hx; subst hx; rfl) rfl (by omega) HBz8.out ?_; intro v9 w9 HA9; obtain ⟨B9, c9, e9⟩ := row_form HA9.out.own; subst e9; have hb9 := HA9.out.blk HOk.out HBl8.out (by decide); have m5b := hb9.cell 5; have f5b := hb9.frozen 5; simp only [List.getElem?_toArray, List.getElem?_cons_succ, List.getElem?_cons_zero] at m5b)
                obtain ⟨r1, r2, r3⟩ := pie_addCall HM8.out (x := []) (by rw [List.length_map, Hcn.out]; exact HA9.out) (Nat.le_succ _)
                clear m5 HA9 hb9 m5b f5b
                obtain ⟨W10, hW10⟩ : ∃ W10, w9.setCell ⟨bx, 5, none⟩ (.slice B9 (cn + 1) c9) = W10 := ⟨_, rfl⟩
                rw [hW10] at r1 r2 ⊢
                clear hW10
                have HK : Hid (∀ k, InV bx ⟨.slice cA cn cc, vl, vp, .slice B7 (cn + 1) c7, .slice B9 (cn + 1) c9⟩ k → InV bx ⟨.slice cA cn cc, vl, vp, .slice gA cn gc, .slice kA cn kc⟩ k ∨ W6.heap.size ≤ k) := Lib.hid fun k hk => by
                  rcases r3 k hk with h | h
                  · exact HQ3.out k h
                  · exact .inr (Nat.le_trans HQ2.out.size h)
                have HOt : Hid (OutS (InV bx ⟨.slice cA cn cc, vl, vp, .slice gA cn gc, .slice kA cn kc⟩) W6 W10) := Lib.hid (HQ2.out.trans r2 fun k hk h => (HQ3.out k h).elim id fun h => by omega)
                have HFl : Hid (Fld W10 base bx nm st ⟨.slice cA cn cc, vl, vp, .slice B7 (cn + 1) c7, .slice B9 (cn + 1) c9⟩ W5.heap.size (ins0 (op : Int))) := Lib.hid ⟨r1, (HOt.out.block _ Hz6.out (fun h => by have := Hlt.out _ h; omega)).trans HMb.out, fun h => by
                  rcases HK.out _ h with h | h
                  · have := Hlt.out _ h
                    omega
                  · have := Hz6.out
                    omega⟩
                clear r1 r2 r3
                have F0 : Hid (fieldsP nb (ins0 (op : Int)) (ordL (op : Int)) p = fieldsP nb (ins0 (op : Int)) ((ordL (op : Int)).drop 0) (p.drop 0)) := Lib.hid rfl
                have HB6w : Hid (Below w0.heap.size w0 W6) := Lib.hid (HB5w.out.trans (HB6.out.mono HB5w.out.size))
                have HBM : Hid (∀ k, InV bx ⟨.slice cA cn cc, vl, vp, .slice B7 (cn + 1) c7, .slice B9 (cn + 1) c9⟩ k ∨ k = W5.heap.size → InV bx ⟨.slice cA cn cc, vl, vp, .slice gA cn gc, .slice kA cn kc⟩ k ∨ W5.heap.size ≤ k) := Lib.hid fun k hk => by
                  rcases hk with hk | rfl
                  · rcases HK.out k hk with h | h
                    · exact .inl h
                    · exact .inr (Nat.le_trans (Nat.le_of_lt Hz6.out) h)
                  · exact .inr (Nat.le_refl _)
                have Hlt0 : Hid (∀ k, InV bx ⟨.slice cA cn cc, vl, vp, .slice gA cn gc, .slice kA cn kc⟩ k → k < w0.heap.size) := Lib.hid fun k hk => PieM.lt HM.out (inPie_iff.2 hk)
                clear HM8 HQ2 HQ3 HBl8 HOk HBz8 HM6 HBl6 HOg HMb
                go_wp2_with fail
                go_loopg [18] fl (fun gk iv wx => ∃ (i : Nat) (x : Ins), iv = .int .i64 (i : Int) ∧ i + gk = fl ∧ Hid (fieldsP nb (ins0 (op : Int)) (ordL (op : Int)) p = fieldsP nb x ((ordL (op : Int)).drop i) (p.drop i)) ∧ Hid (Fld wx base bx nm st ⟨.slice cA cn cc, vl, vp, .slice B7 (cn + 1) c7, .slice B9 (cn + 1) c9⟩ W5.heap.size x) ∧ Hid (OutS (fun k => InV bx ⟨.slice cA cn cc, vl, vp, .slice B7 (cn + 1) c7, .slice B9 (cn + 1) c9⟩ k ∨ k = W5.heap.size) W10 wx))
                case atStart => exact ⟨0, _, rfl, by omega, F0, HFl, Lib.hid (OutS.refl _ _)⟩
                case round =>
                  obtain ⟨i, x, rfl, hi, HFs, HFx, HOx⟩ := hrel
                  clear F0
                  have HO0 : Hid (OutS (InV bx ⟨.slice cA cn cc, vl, vp, .slice gA cn gc, .slice kA cn kc⟩) w0 wr) := Lib.hid (((outS_of HB6w.out).trans HOt.out fun _ _ h => h).trans HOx.out fun k hk h => (HBM.out k h).elim id fun h => by have := HB5w.out.size; omega)
                  rcases gk with _ | gk
                  · obtain rfl : i = fl := by omega
                    have H1 : Hid (lineP nb st s = (0, ⟨st.code ++ [x], st.labs⟩)) := Lib.hid (by
                      have h : fieldsP nb (ins0 (op : Int)) (ordL (op : Int)) p = some x := by
                        rw [HFs.out, List.drop_eq_nil_of_le (by rw [Hfl.out]; exact Nat.le_refl _)]
                        rw [fieldsP]
                        intro _ _ _ _ e
                        cases e
                      rw [HE2.out, h])
                    obtain ⟨W7, hW7⟩ : ∃ W7, wr.drew = W7 := ⟨_, rfl⟩
                    have hM7 : PieM W7 base bx nm (pieRows (st.code.map fun x => x.m) (labsI st.labs) (placesI st.labs) (st.code.map goalI ++ [goalI x]) (st.code.map callI ++ [callI x]) ⟨.slice cA cn cc, vl, vp, .slice B7 (cn + 1) c7, .slice B9 (cn + 1) c9⟩) := by rw [← hW7]; exact HFx.out.1.stay fun _ _ => rfl
                    have hMb7 : Blk W7 W5.heap.size 39 #[.int .i64 x.m.op, .int .i64 x.m.dst, .int .i64 x.m.a, .int .i64 x.m.b, .int .i64 x.m.n] := by rw [← hW7]; exact HFx.out.2.1
                    have hBl7 : Blk W7 bx 63 #[.string (mkS nm), .slice cA cn cc, vl, vp, .slice B7 (cn + 1) c7, .slice B9 (cn + 1) c9] := hM7.blk
                    have hown : W7.ownsRow base 39 5 (.slice cA cn cc) cn (cellsS (st.code.map fun x => x.m)) := by
                      have h : W7.ownsRow base 39 5 (.slice cA cn cc) (st.code.map fun x => x.m).length (cellsS (st.code.map fun x => x.m)) := (hM7.at_ (i := 0) rfl).1
                      rw [List.length_map, Hcn.out] at h
                      exact h
                    have hz7 : base ≤ W7.heap.size := by rw [← hW7]; exact Nat.le_trans HB.out HO0.out.size
                    obtain ⟨C9, c10, W9, hr, hap⟩ := run_app_one (P := Tryz.prog) (w := W7) 22 22 39 _ 5 40 Tryz.underlying22 infoMac rfl (by decide) (by decide) base _ _ _ hown [.int .i64 x.m.op, .int .i64 x.m.dst, .int .i64 x.m.a, .int .i64 x.m.b, .int .i64 x.m.n] rfl (fun u hu => by simp at hu; rcases hu with rfl | rfl | rfl | rfl | rfl <;> rfl) (by omega) hz7
                    obtain ⟨r1, r2, r3⟩ := pie_addCode hM7 (m := x.m) (by rw [List.length_map, Hcn.out]; exact hap) (Nat.le_succ _)
                    have hbx := hap.blk hown hBl7 (by decide)
                    have hmb9 : Blk W9 W5.heap.size 39 #[.int .i64 x.m.op, .int .i64 x.m.dst, .int .i64 x.m.a, .int .i64 x.m.b, .int .i64 x.m.n] := (hap.2.2.1.block _ hMb7.lt (fun h => HFx.out.2.2 (.inr (.inl h.symm)))).trans hMb7
                    have HF : Hid (∀ w', w' = W7 ∨ w' = W7.alloc (.cells #[.int .i64 x.m.op, .int .i64 x.m.dst, .int .i64 x.m.a, .int .i64 x.m.b, .int .i64 x.m.n] 39) ∨ w' = W9 → w'.cell? ⟨bx, 1, none⟩ = some (.slice cA cn cc) ∧ w'.cell? ⟨W5.heap.size, 0, none⟩ = some (.int .i64 x.m.op) ∧ w'.cell? ⟨W5.heap.size, 1, none⟩ = some (.int .i64 x.m.dst) ∧ w'.cell? ⟨W5.heap.size, 2, none⟩ = some (.int .i64 x.m.a) ∧ w'.cell? ⟨W5.heap.size, 3, none⟩ = some (.int .i64 x.m.b) ∧ w'.cell? ⟨W5.heap.size, 4, none⟩ = some (.int .i64 x.m.n)) := Lib.hid (by
                      rintro w' (rfl | rfl | rfl)
                      · exact ⟨hBl7.cell 1, hMb7.cell 0, hMb7.cell 1, hMb7.cell 2, hMb7.cell 3, hMb7.cell 4⟩
                      · exact ⟨(hBl7.alloc _).cell 1, (hMb7.alloc _).cell 0, (hMb7.alloc _).cell 1, (hMb7.alloc _).cell 2, (hMb7.alloc _).cell 3, (hMb7.alloc _).cell 4⟩
                      · exact ⟨hbx.cell 1, hmb9.cell 0, hmb9.cell 1, hmb9.cell 2, hmb9.cell 3, hmb9.cell 4⟩)
                    have e3 := hbx.cell 1
                    have f3 := hbx.frozen 1
                    simp only [List.getElem?_toArray, List.getElem?_cons_succ, List.getElem?_cons_zero] at e3
                    have Hr := Lib.hid hr
                    have HOf : Hid (OutS (InV bx ⟨.slice cA cn cc, vl, vp, .slice gA cn gc, .slice kA cn kc⟩) w0 (W9.setCell ⟨bx, 1, none⟩ (.slice C9 (cn + 1) c10))) := Lib.hid (by
                      rw [← hW7] at r2
                      exact HO0.out.trans r2.drewn fun k hk h => (HBM.out k (.inl h)).elim id fun h => by have := HB5w.out.size; omega)
                    have HKf : Hid (∀ k, InV bx ⟨.slice C9 (cn + 1) c10, vl, vp, .slice B7 (cn + 1) c7, .slice B9 (cn + 1) c9⟩ k → InV bx ⟨.slice cA cn cc, vl, vp, .slice gA cn gc, .slice kA cn kc⟩ k ∨ w0.heap.size ≤ k) := Lib.hid fun k hk => by
                      rcases r3 k hk with h | h
                      · rcases HBM.out k (.inl h) with h | h
                        · exact .inl h
                        · exact .inr (Nat.le_trans HB5w.out.size h)
                      · rw [← hW7] at h
                        exact .inr (Nat.le_trans HO0.out.size h)
                    have HR := Lib.hid r1
                    have HW7 := Lib.hid hW7
                    clear hW7 hM7 hMb7 hBl7 hown hz7 hr hap r1 r2 r3 hbx hmb9
                    go_upto_region 37 with fail
                    refine wp_region_lex (Three W7 (W7.alloc (.cells #[.int .i64 x.m.op, .int .i64 x.m.dst, .int .i64 x.m.a, .int .i64 x.m.b, .int .i64 x.m.n] 39)) W9 (W9.setCell ⟨bx, 1, none⟩ (.slice C9 (cn + 1) c10)) 6 7 10 8) (by kernel_rfl) (by kernel_rfl) (by have h : ({ wr with drawn := wr.drawn + 1 } : World) = W7 := HW7.out; rw [h]; exact Three.start) ?_
                    iterate 6
                      apply wpLex_step
                      · rfl
                      · intro L w' hC hL hd
                        clear hd
                        have F := HF.out w' (hC.pend hL (by decide))
                        have HC := Lib.hid hC
                        clear hC
                        go_simp
                        exact ⟨HC.out.keep _ (by decide) (by decide) (by decide), rfl⟩
                      simp only [Act.put, List.setIfInBounds_toArray, List.set_cons_succ, List.set_cons_zero, Nat.reduceAdd]
                    apply wpLex_step
                    · rfl
                    · intro L w' hC hL hd
                      obtain ⟨hw, hC2⟩ := hC.at1 hL (by decide) (by decide) (by decide)
                      subst hw
                      have HC2 := Lib.hid hC2
                      clear hd hC hL hC2
                      go_simp
                      exact ⟨HC2.out, rfl⟩
                    simp only [Act.put, List.setIfInBounds_toArray, List.set_cons_succ, List.set_cons_zero, Nat.reduceAdd]
                    apply wpLex_step
                    · rfl
                    · intro L w' hC hL hd
                      obtain ⟨hw, hC2⟩ := hC.at2 hL (hd ⟨6, .data⟩ (by simp) rfl) (by decide) (by decide)
                      subst hw
                      rw [exec_app (.tmp 181) (.tmp 183) 22 22 rfl _ _ _ _ rfl rfl Hr.out]
                      exact ⟨hC2, rfl⟩
                    simp only [Act.put, List.setIfInBounds_toArray, List.set_cons_succ, List.set_cons_zero, Nat.reduceAdd]
                    iterate 2
                      apply wpLex_step
                      · rfl
                      · intro L w' hC hL hd
                        clear hd
                        have HC := Lib.hid hC
                        clear hC
                        go_simp
                        exact ⟨HC.out.keep _ (by decide) (by decide) (by decide), rfl⟩
                      simp only [Act.put, List.setIfInBounds_toArray, List.set_cons_succ, List.set_cons_zero, Nat.reduceAdd]
                    apply wpLex_step
                    · rfl
                    · intro L w' hC hL hd
                      obtain ⟨hw, hC2⟩ := hC.at3 hL (cover (m := 8) (by kernel_rfl) hd) (by decide) (by decide)
                      subst hw
                      have HC2 := Lib.hid hC2
                      clear hd hC hL hC2
                      go_simp
                      exact ⟨HC2.out, rfl⟩
                    simp only [Act.put, Nat.reduceAdd]
                    apply wpLex_nil
                    intro L w' hC hd
                    obtain rfl := hC.end_ (hd 10 (by decide))
                    clear hC hd
                    go_wp2_with fail
                    go_ret
                    rw [H1.out]
                    refine ⟨rfl, HOf.out, fun _ => ⟨_, ?_, HKf.out⟩⟩
                    unfold Pie
                    simp only [List.map_append, List.map_cons, List.map_nil]
                    exact HR.out
                  · have hil : i < fl := by omega
                    obtain ⟨c1, hc1⟩ : ∃ c, (ordL (op : Int))[i]? = some c := ⟨(ordL (op : Int))[i]'(by rw [Hfl.out]; exact hil), List.getElem?_eq_getElem _⟩
                    obtain ⟨y, hy⟩ : ∃ y, p[i]? = some y := ⟨p[i]'(by rw [Hpn.out]; exact hil), List.getElem?_eq_getElem _⟩
                    have hyl := Hpl.out y (List.mem_of_getElem? hy)
                    obtain ⟨b0, c0, e0, hbb, hb0, hcell⟩ := (show OwnS W2 w0.heap.size (.slice pA p.length pc) p from by rw [Hpn.out]; exact HP.out).at_ hy
                    obtain rfl : pA = some ⟨b0, 0, none⟩ := (Value.slice.inj e0).1
                    have hcx : wr.cell? ⟨b0, i, none⟩ = some (.string (mkS y)) := by
                      have h1 : W5.cell? ⟨b0, i, none⟩ = some (.string (mkS y)) := (bcell HB5.out hb0).trans hcell
                      have h5 : b0 < W5.heap.size := Nat.lt_of_lt_of_le hb0 HB5.out.size
                      have h2 : wr.heap[b0]? = W5.heap[b0]? := by
                        refine (HOx.out.block b0 (Nat.lt_of_lt_of_le (Nat.lt_trans h5 Hz6.out) HOt.out.size) (fun h => ?_)).trans ((HOt.out.block b0 (Nat.lt_trans h5 Hz6.out) (fun h => ?_)).trans ?_)
                        · rcases HBM.out _ h with h | h
                          · have := Hlt0.out _ h
                            omega
                          · omega
                        · have := Hlt0.out _ h
                          omega
                        · exact HB6.out.block b0 h5
                      unfold World.cell? at h1 ⊢
                      rw [h2]
                      exact h1
                    have hfi : i < (mkS (ordL (op : Int))).size := by rw [mkS_size, Hfl.out]; exact hil
                    have hci : (((mkS (ordL (op : Int)))[i].toNat : Nat) : Int) = (c1.toNat : Int) := by
                      rw [at_mk _ i hfi, List.getD_eq_getElem?_getD, hc1]
                      rfl
                    have HFx' : Hid (Fld wr.drew base bx nm st ⟨.slice cA cn cc, vl, vp, .slice B7 (cn + 1) c7, .slice B9 (cn + 1) c9⟩ W5.heap.size x) := Lib.hid ⟨HFx.out.1.stay fun _ _ => rfl, HFx.out.2.1, HFx.out.2.2⟩
                    have HFd := Lib.hid (pieField_any nb x c1 _ hci y hyl wr.drew HFx'.out (by rw [Hcn.out]; exact hl2))
                    have HSt := Lib.hid (HFs.out.trans (fields_step hc1 hy))
                    have k0 : (0 : Int) ≤ (i : Int) := Int.natCast_nonneg i
                    have k1 : (i : Int) < (fl : Int) := by omega
                    clear hc1 hy hyl e0 hbb hb0 hcell hci
                    go_upto_region 35 with fail
                    go_still_tail 9, (by kernel_rfl)
                    change wpList _ _ _ _ _ wr.drew
                    go_wp2_with fail
                    refine HFd.out.mono ?_
                    rintro e W11 ⟨he, hO, hN⟩
                    have HO11 : Hid (OutS (fun k => InV bx ⟨.slice cA cn cc, vl, vp, .slice B7 (cn + 1) c7, .slice B9 (cn + 1) c9⟩ k ∨ k = W5.heap.size) W10 W11) := Lib.hid (HOx.out.trans (OutS.drewn hO) fun _ _ h => h)
                    cases hr : fieldP nb x c1 y with
                    | none =>
                      have H1 : Hid (lineP nb st s = (1, st)) := Lib.hid (by rw [HE2.out, HSt.out, hr]; rfl)
                      rw [hr] at he
                      subst he
                      clear hO hN hr HFd HSt
                      go_wp2_with fail
                      go_ret
                      rw [H1.out]
                      exact ⟨rfl, ((outS_of HB6w.out).trans HOt.out fun _ _ h => h).trans HO11.out fun k hk h => (HBM.out k h).elim id fun h => by have := HB5w.out.size; omega, fun h => by cases h⟩
                    | some x2 =>
                      have HN2 := Lib.hid (hN x2 hr)
                      have HS2 : Hid (fieldsP nb (ins0 (op : Int)) (ordL (op : Int)) p = fieldsP nb x2 ((ordL (op : Int)).drop (i + 1)) (p.drop (i + 1))) := Lib.hid (by rw [HSt.out, hr]; rfl)
                      rw [hr] at he
                      subst he
                      clear hO hN hr HFd HSt
                      go_wp2_with fail
                      go_roundg gk
                      case measure => omega
                      case rel => exact ⟨i + 1, x2, by go_num, by omega, HS2, HN2, HO11⟩
            · have HNx := Lib.hid (HN.out.next (fit_len_ne (by rw [Hfl.out, Hpn.out]; exact hlen)))
              have hl1 : ((fl : Int) == (pn : Int)) = false := by rw [beq_eq_false_iff_ne]; omega
              have hl2 : ((fl : Int) != (pn : Int)) = true := by unfold bne; rw [hl1]; rfl
              clear hw hlen
              go_wp2_with fail
              go_roundg gk
              case measure => omega
              case rel => exact ⟨op + 1, by go_num, by omega, by omega, HNx, HB4⟩
          · obtain ⟨q1, q2, q3⟩ := str_facts hw
            have HNx := Lib.hid (HN.out.next (fit_word_ne hw))
            clear hw
            go_wp2_with fail
            go_roundg gk
            case measure => omega
            case rel => exact ⟨op + 1, by go_num, by omega, by omega, HNx, HB4⟩
end
end Go.Proofs.YtdldochhondifaaGreatDoor
