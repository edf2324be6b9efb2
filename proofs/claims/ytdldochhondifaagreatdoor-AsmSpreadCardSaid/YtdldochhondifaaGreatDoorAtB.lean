/-
  asm.Read.
  Conditions: the laid start (Std).
-/
import Derived.Test.YtdldochhondifaaGreatDoorArO
namespace Go.Proofs.YtdldochhondifaaGreatDoor
open Go.RowKit
attribute [local go_sem] Oper.semAt_some

section
variable {base bx lb : Nat} {nm : List UInt8} {st : PSt} {cv gv kv : Value}
theorem line_any (nb : Bool) (s : List UInt8) (hs : s.length ≤ 900000) (hok : LineOk s) (w : World) (hS : Std w) (hM : Sec w base bx nm st cv lb gv kv) (hbase : base ≤ w.heap.size) (hl : st.labs.length ≤ 1000000) (hl2 : st.code.length ≤ 1000000) :
    Calls Tryz.prog 25 #[.pointer (some ⟨bx, 0, none⟩), .string (mkS s), .bool nb] w (LinePost w base bx nm cv lb gv kv (lineP nb st s)) := by
  by_cases hc : s.getLast? = some 58
  · exact line_label nb s (by omega) hc w hS hM hbase hl hl2
  · exact line_ins nb s hs hok hc w hS hM hbase hl2
end
/-- What Read leaves. -/
def ReadPost (B : Nat) (r : List Mac × (Int × Int)) (e : Ending) (w' : World) : Prop :=
  ∃ v, e = .returned (.tuple #[v, .agg #[.int .i64 r.2.1, .int .i64 r.2.2]]) ∧ OwnMacs w' B v r.1
set_option maxRecDepth 100000 in
set_option maxHeartbeats 4000000 in
theorem AsmRead_any (t : List UInt8) (ht : t.length ≤ 9223372036854775807) (w : World) (hS : Std w) :
    Calls Tryz.prog 10 #[.string (mkS t)] w fun e w' => ReadPost w.heap.size (readP t) e w' ∧ Below w.heap.size w w' := by
  obtain ⟨n, hn⟩ : ∃ n, t.length = n := ⟨_, rfl⟩
  have hz : (mkS t).size = n := by rw [mkS_size, hn]
  have Hn := Lib.hid hn
  have HS := Lib.hid hS
  have HB0 : Hid (Below w.heap.size w (w.alloc (.cells #[.int .i64 0, .int .i64 0] 24))) := Lib.hid ((Below.refl _ _).alloc (Nat.le_refl _) _)
  have HX0 : Hid (Blk (w.alloc (.cells #[.int .i64 0, .int .i64 0] 24)) w.heap.size 24 #[.int .i64 0, .int .i64 0]) := Lib.hid (Blk.new w _ _)
  rw [hn] at ht
  clear hS hn
  go_enter Tryz.func10, Tryz.ntmps10
  go_upto_region 1 with fail
  generalize w.alloc (.cells #[.int .i64 0, .int .i64 0] 24) = W0 at *
  have hfz := HX0.out.frozen 0
  have hfz1 := HX0.out.frozen 1
  by_cases h8 : 80000 < n
  · have x0 := HX0.out.cell 0
    have x1 := HX0.out.cell 1
    have h8' : (n : Int) > 80000 := by omega
    have HE : Hid (readP t = ([], (2, 0))) := Lib.hid (by unfold readP; rw [if_pos (by rw [Hn.out]; exact h8)])
    clear h8
    go_wp2_with fail
    refine end_tmp_cell rfl rfl (HX0.out.set2 (.int .i64 2) (.int .i64 0)) Tryz.underlying24 rfl (by kernel_rfl) rfl ⟨?_, ?_⟩
    · rw [HE.out]
      exact ⟨_, rfl, OwnMacs.nil _ _⟩
    · exact (HB0.out.setCell (Nat.le_refl _) _).setCell (Nat.le_refl _) _
  · have h8' : ¬ (n : Int) > 80000 := by omega
    have hn8 : n ≤ 80000 := by omega
    have HRd : Hid (¬ 80000 < t.length) := Lib.hid (by rw [Hn.out]; exact h8)
    clear h8
    have HL := Lib.hid (lines_len t)
    obtain ⟨W1, hW1⟩ : ∃ W1, W1 = (W0.alloc (.map #[] 0)).alloc (.cells #[.string ⟨#[]⟩, .slice none 0 0, .map (some W0.heap.size), .slice none 0 0, .slice none 0 0] 56) := ⟨_, rfl⟩
    obtain ⟨lb, hlb⟩ : ∃ lb, W0.heap.size = lb := ⟨_, rfl⟩
    obtain ⟨bx, hbx⟩ : ∃ bx, (W0.alloc (.map #[] 0)).heap.size = bx := ⟨_, rfl⟩
    have hg3l : w.heap.size < lb := by rw [← hlb]; exact HX0.out.lt
    have hlbx : lb < bx := by rw [← hlb, ← hbx]; simp
    have HM1 : Hid (Sec W1 w.heap.size bx [] ⟨[], []⟩ (.slice none 0 0) lb (.slice none 0 0) (.slice none 0 0)) := Lib.hid (by
      rw [hW1, ← hlb, ← hbx]
      exact ⟨Blk.new _ _ _, OwnMacs.nil _ _, (LabMap.made W0).stay (Below.heap_alloc _ _ _ (LabMap.made W0).lt), OwnG.nil _ _, OwnG.nil _ _, fun k h => (by cases h), ⟨by omega, by omega⟩⟩)
    have HX1 : Hid (Blk W1 w.heap.size 24 #[.int .i64 0, .int .i64 0]) := Lib.hid (by rw [hW1]; exact (HX0.out.alloc _).alloc _)
    have HB1 : Hid (Below w.heap.size w W1) := Lib.hid (by rw [hW1]; exact (HB0.out.alloc HB0.out.size _).alloc (Nat.le_trans HB0.out.size (Nat.le_of_lt (by simp))) _)
    have HS1 : Hid (Std W1) := Lib.hid (HS.out.own HB1.out)
    have HLs := Lib.hid (lines_any t (by rw [Hn.out]; omega) W1 HS1.out)
    have Hbase : Hid (bx < W1.heap.size) := Lib.hid (HM1.out.blk.lt)
    rw [hlb] at hW1
    have hmm := @run_makeMap Tryz.prog
    clear HX0 HB0 hfz hfz1
    go_upto_region 4 with fail
    rw [← hW1]
    clear hW1 hmm hlb hbx hz
    clear W0
    go_wp2_with fail
    refine HLs.out.mono ?_
    rintro e W2 ⟨⟨lv, rfl, hown⟩, hb⟩
    obtain ⟨lA, lc, hlv⟩ := hown.len
    subst hlv
    obtain ⟨ln, hln⟩ : ∃ ln, (linesL t).length = ln := ⟨_, rfl⟩
    have Hln := Lib.hid hln
    rw [hln] at hown ⊢
    have HOwn := Lib.hid hown
    have hlm : ln ≤ 80001 := by have := HL.out; rw [Hln.out, Hn.out] at this; omega
    have HX2 := Lib.hid (HX1.out.below hb HX1.out.lt)
    have HM2 : Hid (Sec W2 w.heap.size bx [] ⟨[], []⟩ (.slice none 0 0) lb (.slice none 0 0) (.slice none 0 0)) := Lib.hid (HM1.out.below hb)
    have HB2 := Lib.hid (HB1.out.trans (hb.mono HB1.out.size))
    have Hz2 : Hid (bx < W2.heap.size) := Lib.hid HM2.out.blk.lt
    have Hzb : Hid (∀ k, k = bx ∨ k = lb → k < W1.heap.size) := Lib.hid fun k hk => by have := Hbase.out; omega
    have H0 := Lib.hid (StepsTo.zero false (linesL t))
    have Hge : Hid (∀ k, k = bx ∨ k = lb → w.heap.size < k) := Lib.hid fun k hk => by omega
    clear hb hown hln HX1 HM1 HB1 HLs
    go_wp2_with fail
    go_loopg [20] ln (fun gk iv wx => ∃ (i : Nat) (st : PSt) (cv gv kv : Value), iv = .int .i64 (i : Int) ∧ i + gk = ln ∧ Hid (StepsTo false (linesL t) i st) ∧ Hid (Sec wx w.heap.size bx [] st cv lb gv kv) ∧ Hid (∀ k, InSec bx lb cv gv kv k → (k = bx ∨ k = lb) ∨ W2.heap.size ≤ k) ∧ Hid (OutS (fun k => k = bx ∨ k = lb) W2 wx))
    case atStart => exact ⟨0, _, _, _, _, rfl, by omega, H0, HM2, Lib.hid (fun k hk => by rcases hk with h | h | h | h | h <;> first | exact .inl (.inl h) | exact .inl (.inr h) | cases h), Lib.hid (OutS.refl _ _)⟩
    case round =>
      obtain ⟨i, st, cv, gv, kv, rfl, hi, HT, HMi, HIi, HOi⟩ := hrel
      clear H0
      have HXi : Hid (Blk wr w.heap.size 24 #[.int .i64 0, .int .i64 0]) := Lib.hid ((HOi.out.block _ HX2.out.lt (fun h => by have := Hge.out _ h; omega)).trans HX2.out)
      have HBi : Hid (Below w.heap.size w wr) := Lib.hid (HB2.out.trans (HOi.out.below HB2.out.size fun k hk => Nat.le_of_lt (Hge.out k hk)))
      have HSi : Hid (Std wr) := Lib.hid (HS.out.own HBi.out)
      rcases gk with _ | gk
      · obtain rfl : i = ln := by omega
        have HD := Lib.hid (HT.out.done (by rw [Hln.out]; exact Nat.le_refl _))
        have HSt := Lib.hid (settle_any wr HSi.out HMi.out HBi.out.size HS.out.big (by have := HT.out.2.2.1; omega) HT.out.2.1)
        have HRp : Hid (readP t = match settleP st with | some j => ([], (6, (j : Int))) | none => if (checkS (settled st)).1 = 0 then (settled st, (0, 0)) else ([], checkS (settled st))) := Lib.hid (by
          unfold readP
          rw [if_neg HRd.out, HD.out, if_neg (by simp)]
          rfl)
        have HNg : Hid (¬ InSec bx lb cv gv kv w.heap.size) := Lib.hid (fun h => by
          rcases HIi.out _ h with h | h
          · have := Hge.out _ h
            omega
          · have := HX2.out.lt
            omega)
        cases hse : settleP st with
        | some j =>
          have HE : Hid (readP t = ([], (6, (j : Int)))) := Lib.hid (by rw [HRp.out, hse])
          have Hse := Lib.hid hse
          have hj : (j : Int) ≥ 0 := Int.natCast_nonneg j
          clear hse HRp HT HOwn
          go_wp2_with fail
          refine HSt.out.mono ?_
          rintro e W3 ⟨ho, h1, _⟩
          obtain rfl := h1 j Hse.out
          have HX3 : Hid (Blk W3 w.heap.size 24 #[.int .i64 0, .int .i64 0]) := Lib.hid ((ho.block _ HXi.out.lt HNg.out).trans HXi.out)
          have HB3 : Hid (Below w.heap.size w W3) := Lib.hid (HBi.out.trans (ho.below HBi.out.size fun k hk => HMi.out.low hk))
          have x0 := HX3.out.cell 0
          have x1 := HX3.out.cell 1
          have hfz := HX3.out.frozen 0
          have hfz1 := HX3.out.frozen 1
          clear ho h1 HSt
          go_wp2_with fail
          refine end_tmp_cell rfl rfl (HX3.out.set2 (.int .i64 6) (.int .i64 (j : Int))) Tryz.underlying24 rfl (by kernel_rfl) rfl ⟨?_, ?_⟩
          · rw [HE.out]
            exact ⟨_, rfl, OwnMacs.nil _ _⟩
          · exact (HB3.out.setCell (Nat.le_refl _) _).setCell (Nat.le_refl _) _
        | none =>
          obtain ⟨uc, ua, hun⟩ : ∃ uc ua, checkS (settled st) = (uc, ua) := ⟨_, _, rfl⟩
          have HE : Hid (readP t = if uc = 0 then (settled st, (0, 0)) else ([], (uc, ua))) := Lib.hid (by rw [HRp.out, hse, hun])
          have Hse := Lib.hid hse
          have Hun := Lib.hid hun
          clear hse hun HRp HT HOwn
          go_wp2_with fail
          refine HSt.out.mono ?_
          rintro e W3 ⟨ho, _, h2⟩
          obtain ⟨rfl, hm3⟩ := h2 Hse.out
          have HM3 := Lib.hid hm3
          have HX3 : Hid (Blk W3 w.heap.size 24 #[.int .i64 0, .int .i64 0]) := Lib.hid ((ho.block _ HXi.out.lt HNg.out).trans HXi.out)
          have HB3 : Hid (Below w.heap.size w W3) := Lib.hid (HBi.out.trans (ho.below HBi.out.size fun k hk => HMi.out.low hk))
          have HCk := Lib.hid (Check_any cv (settled st) W3 HM3.out.code.macs (HS.out.own HB3.out).tab)
          rw [Hun.out] at HCk
          have m1 := HM3.out.blk.cell 1
          clear ho h2 hm3 HSt
          go_wp2_with fail
          refine HCk.out.mono ?_
          rintro e W4 ⟨rfl, hb4⟩
          have HB5 : Hid (Below w.heap.size w (W4.alloc (.cells #[.int .i64 uc, .int .i64 ua] 24))) := Lib.hid ((HB3.out.trans (hb4.mono HB3.out.size)).alloc (Nat.le_trans HB3.out.size hb4.size) _)
          have HX5 := Lib.hid ((HX3.out.below hb4 HX3.out.lt).alloc (.cells #[.int .i64 uc, .int .i64 ua] 24))
          have HM5 := Lib.hid ((HM3.out.below hb4).below (w' := W4.alloc (.cells #[.int .i64 uc, .int .i64 ua] 24)) ((Below.refl _ _).alloc (Nat.le_refl _) _))
          have HF5 : Hid (Blk (W4.alloc (.cells #[.int .i64 uc, .int .i64 ua] 24)) W4.heap.size 24 #[.int .i64 uc, .int .i64 ua]) := Lib.hid (Blk.new _ _ _)
          clear hb4 HCk m1
          go_upto_region 16 with fail
          generalize W4.alloc (.cells #[.int .i64 uc, .int .i64 ua] 24) = W5 at *
          generalize W4.heap.size = g4 at *
          have x0 := HF5.out.cell 0
          have x1 := HF5.out.cell 1
          have y0 := HX5.out.cell 0
          have y1 := HX5.out.cell 1
          have hfz := HX5.out.frozen 0
          have hfz1 := HX5.out.frozen 1
          have m1 := HM5.out.blk.cell 1
          by_cases h0 : uc = 0
          · subst h0
            have HE0 : Hid (readP t = (settled st, (0, 0))) := Lib.hid (by rw [HE.out, if_pos rfl])
            have hown : ∀ (u v : Value), OwnMacs ((W5.setCell ⟨w.heap.size, 0, none⟩ u).setCell ⟨w.heap.size, 1, none⟩ v) w.heap.size cv (settled st) := fun u v =>
              own_at HM5.out.code fun k hk => ((outS_set (S := fun j => j = w.heap.size) W5 w.heap.size 0 u rfl).trans (outS_set (S := fun j => j = w.heap.size) (W5.setCell ⟨w.heap.size, 0, none⟩ u) w.heap.size 1 v rfl) fun _ _ h => h).block k (own_lt HM5.out.code hk) (fun e => HNg.out (.inr (.inr (.inl (e ▸ hk)))))
            have HOwn5 := Lib.hid hown
            clear hown
            go_wp2_with fail
            refine end_tmp_cell rfl rfl (HX5.out.set2 (.int .i64 0) (.int .i64 0)) Tryz.underlying24 rfl (by kernel_rfl) rfl ⟨?_, ?_⟩
            · rw [HE0.out]
              exact ⟨_, rfl, HOwn5.out _ _⟩
            · exact (HB5.out.setCell (Nat.le_refl _) _).setCell (Nat.le_refl _) _
          · have hub : (uc == 0) = false := by simpa using h0
            have HE0 : Hid (readP t = ([], (uc, ua))) := Lib.hid (by rw [HE.out, if_neg h0])
            clear h0
            go_wp2_with fail
            go_region
            all_goals
              go_wp2_with fail
              refine end_tmp_cell rfl rfl (HX5.out.set2 (.int .i64 uc) (.int .i64 ua)) Tryz.underlying24 rfl (by kernel_rfl) rfl ⟨?_, ?_⟩
              · rw [HE0.out]
                exact ⟨_, rfl, OwnMacs.nil _ _⟩
              · have h := (HB5.out.setCell (p := ⟨w.heap.size, 0, none⟩) (Nat.le_refl _) (.int .i64 uc)).setCell (p := ⟨w.heap.size, 1, none⟩) (Nat.le_refl _) (.int .i64 ua)
                exact ⟨h.os, h.tape, h.output, h.size, h.block⟩
      · have hil : i < ln := by omega
        obtain ⟨l, hl⟩ : ∃ l, (linesL t)[i]? = some l := ⟨(linesL t)[i]'(by rw [Hln.out]; exact hil), List.getElem?_eq_getElem _⟩
        obtain ⟨b, c, hbe, hb1, hb2, hbc⟩ := (show OwnS W2 W1.heap.size (.slice lA (linesL t).length lc) (linesL t) from by rw [Hln.out]; exact HOwn.out).at_ hl
        have ge1 : lA = some ⟨b, 0, none⟩ := (Value.slice.inj hbe).1
        subst ge1
        have hbc' : wr.cell? ⟨b, i, none⟩ = some (.string (mkS l)) := by
          have h : wr.heap[b]? = W2.heap[b]? := HOi.out.block b hb2 (fun h => by have := Hzb.out _ h; omega)
          unfold World.cell? at hbc ⊢
          rw [h]
          exact hbc
        obtain ⟨n1, n2, n3⟩ := HT.out.next hl
        have HN := Lib.hid (And.intro n1 (And.intro n2 n3))
        have Hl := Lib.hid hl
        have k0 : (0 : Int) ≤ (i : Int) := Int.natCast_nonneg i
        have k1 : (i : Int) < (ln : Int) := by omega
        have hcell := hbc'
        clear hl hbe hb1 hb2 hbc hbc' n1 n2 n3
        by_cases hnil : l = []
        · subst hnil
          have HTn := Lib.hid (HN.out.1 rfl)
          rw [show mkS [] = ⟨#[]⟩ from rfl] at hcell
          go_wp2_with fail
          go_roundg gk
          case measure => omega
          case rel => exact ⟨i + 1, st, cv, gv, kv, by go_num, by omega, HTn, HMi, HIi, HOi⟩
        · have hmem := List.mem_of_getElem? Hl.out
          have HLn := Lib.hid (line_any false l (Nat.le_trans (lines_size hmem) (by rw [Hn.out]; omega)) (lines_ok hmem hnil) wr HSi.out HMi.out HBi.out.size (by have := HT.out.2.2.2; omega) (by have := HT.out.2.2.1; omega))
          have q1 : (mkS l).toList.isEmpty = false := by rw [mkS_toList]; cases l with | nil => exact absurd rfl hnil | cons a l => rfl
          have q2 : ¬ (mkS l).toList = [] := by rw [mkS_toList]; exact hnil
          have q3 : ((mkS l).toList == []) = false := beq_false_of_ne q2
          obtain ⟨rc, hrc⟩ : ∃ rc, (lineP false st l).1 = rc := ⟨_, rfl⟩
          have Hrc := Lib.hid hrc
          have Hnil := Lib.hid hnil
          clear hmem hnil hrc
          go_wp2_with fail
          refine HLn.out.mono ?_
          rintro e W3 ⟨rfl, ho, hsec⟩
          rw [Hrc.out] at hsec ⊢
          have HO3 := Lib.hid ho
          have HS3 := Lib.hid hsec
          clear ho hsec HLn q1 q2 q3
          by_cases h0 : rc = 0
          · subst h0
            have HTn := Lib.hid (HN.out.2.1 Hnil.out Hrc.out)
            obtain ⟨cv', gv', kv', hm3, hk3⟩ := HS3.out rfl
            have HM3 := Lib.hid hm3
            have HK3 := Lib.hid hk3
            clear hm3 hk3
            go_wp2_with fail
            go_roundg gk
            case measure => omega
            case rel => exact ⟨i + 1, _, cv', gv', kv', by go_num, by omega, HTn, HM3, Lib.hid (fun k hk => (HK3.out k hk).elim (HIi.out k) fun h => .inr (Nat.le_trans HOi.out.size h)), Lib.hid (HOi.out.trans HO3.out fun k hk h => (HIi.out k h).elim id fun h => by omega)⟩
          · have hub : (rc == 0) = false := by simpa using h0
            have hst := HN.out.2.2 Hnil.out (by rw [Hrc.out]; exact h0)
            have HE : Hid (readP t = ([], (rc, (i : Int)))) := Lib.hid (by
              unfold readP
              rw [if_neg HRd.out, hst, if_pos (by show ¬ _ = 0; rw [Hrc.out]; exact h0), Hrc.out])
            have HNg : Hid (¬ InSec bx lb cv gv kv w.heap.size) := Lib.hid (fun h => by
              rcases HIi.out _ h with h | h
              · have := Hge.out _ h
                omega
              · have := HX2.out.lt
                omega)
            have HX3 : Hid (Blk W3 w.heap.size 24 #[.int .i64 0, .int .i64 0]) := Lib.hid ((HO3.out.block _ HXi.out.lt HNg.out).trans HXi.out)
            have HB3 : Hid (Below w.heap.size w W3) := Lib.hid (HBi.out.trans (HO3.out.below HBi.out.size fun k hk => HMi.out.low hk))
            have x0 := HX3.out.cell 0
            have x1 := HX3.out.cell 1
            have hfz := HX3.out.frozen 0
            have hfz1 := HX3.out.frozen 1
            clear h0 hst
            go_wp2_with fail
            refine end_tmp_cell rfl rfl (HX3.out.set2 (.int .i64 rc) (.int .i64 (i : Int))) Tryz.underlying24 rfl (by kernel_rfl) rfl ⟨?_, ?_⟩
            · rw [HE.out]
              exact ⟨_, rfl, OwnMacs.nil _ _⟩
            · exact (HB3.out.setCell (Nat.le_refl _) _).setCell (Nat.le_refl _) _
end Go.Proofs.YtdldochhondifaaGreatDoor
