/-
  Texts of the claim AsmWholeSays (AxC AxD AxE AxF AxR): what each proves stands at its theorems.
  Conditions: as the theorems say.
-/
import Derived.Test.YtdldochhondifaaGreatDoorVAwC
import Derived.Test.YtdldochhondifaaGreatDoorVArE
import Derived.Test.YtdldochhondifaaGreatDoorVMcD
import Derived.Test.YtdldochhondifaaGreatDoorVArB
import Derived.Test.YtdldochhondifaaGreatDoorVAwG
import Derived.Test.YtdldochhondifaaGreatDoorVAtH
import Derived.Test.YtdldochhondifaaGreatDoorVIng
namespace Go.Proofs.YtdldochhondifaaGreatDoor
open Go.RowKit
attribute [local go_sem] Oper.semAt_some

def WordsTo (s : List UInt8) (i : Nat) (cur : List UInt8) (outs : List (List UInt8)) : Prop :=
  cur.length ≤ i ∧ outs.length ≤ i ∧ (s.length < i → cur = []) ∧ wordsP s = outs ++ wordsU cur (s.drop i)
theorem WordsTo.zero (s : List UInt8) : WordsTo s 0 [] [] := ⟨Nat.le_refl _, Nat.le_refl _, fun _ => rfl, rfl⟩
theorem WordsTo.gap {s : List UInt8} {i : Nat} {cur : List UInt8} {outs : List (List UInt8)} (h : WordsTo s i cur outs) (hi : s.length = i ∨ (i < s.length ∧ bl (s.getD i 0) = true)) : WordsTo s (i + 1) [] (if cur = [] then outs else outs ++ [cur]) := by
  obtain ⟨_, h2, _, h4⟩ := h
  refine ⟨Nat.zero_le _, ?_, fun _ => rfl, ?_⟩
  · split
    · omega
    · rw [List.length_append, List.length_cons, List.length_nil]; omega
  rw [h4]
  rcases hi with hi | ⟨hi, hb⟩
  · rw [List.drop_eq_nil_of_le (by omega), List.drop_eq_nil_of_le (by omega), wordsU, wordsU, if_pos rfl, List.append_nil]
    split <;> simp
  · rw [getD_drop0 _ _ hi, wordsU, if_pos hb]
    split <;> simp
theorem WordsTo.byte {s : List UInt8} {i : Nat} {cur : List UInt8} {outs : List (List UInt8)} (h : WordsTo s i cur outs) (hi : i < s.length) (hb : bl (s.getD i 0) = false) : WordsTo s (i + 1) (cur ++ [s.getD i 0]) outs := by
  obtain ⟨h1, h2, _, h4⟩ := h
  refine ⟨by rw [List.length_append, List.length_cons, List.length_nil]; omega, by omega, fun h => by omega, ?_⟩
  rw [h4, getD_drop0 _ _ hi, wordsU, hb, if_neg (by simp)]
theorem WordsTo.done {s : List UInt8} {i : Nat} {cur : List UInt8} {outs : List (List UInt8)} (h : WordsTo s i cur outs) (hi : s.length < i) : outs = wordsP s := by
  obtain ⟨_, _, h3, h4⟩ := h
  rw [h4, h3 hi, List.drop_eq_nil_of_le (by omega), wordsU, if_pos rfl, List.append_nil]
set_option maxRecDepth 100000 in
set_option maxHeartbeats 4000000 in
theorem WordsOf_any (s : List UInt8) (hs : s.length ≤ 1000000) (w : World) :
    Calls Tryz.prog 38 #[.string (mkS s)] w fun e w' => TextsPost w.heap.size (wordsP s) e w' ∧ Below w.heap.size w w' := by
  obtain ⟨n, hn⟩ : ∃ n, s.length = n := ⟨_, rfl⟩
  have hz : (mkS s).size = n := by rw [mkS_size, hn]
  have Hn := Lib.hid hn
  have hs' : n ≤ 1000000 := by omega
  clear hs hn
  have H00 := Lib.hid (WordsTo.zero s)
  go_enter Tryz.func38, Tryz.ntmps38
  go_wp2_with fail
  go_loopg [3, 4, 5] (n + 1) (fun gk ov lv iv wx => ∃ (i : Nat) (cur : List UInt8) (outs : List (List UInt8)), Hid (OwnS wx w.heap.size ov outs) ∧ lv = .string (mkS cur) ∧ iv = .int .i64 (i : Int) ∧ i + gk = n + 1 ∧ Hid (Below w.heap.size w wx) ∧ Hid (WordsTo s i cur outs))
  case atStart => exact ⟨0, [], [], Lib.hid (OwnS.nil _ _), rfl, rfl, by omega, Lib.hid (Below.refl _ _), H00⟩
  case round =>
    obtain ⟨i, cur, outs, HOi, rfl, rfl, hi, HBi, HLi⟩ := hrel
    clear H00
    have hcl : cur.length ≤ i := HLi.out.1
    have hol : outs.length ≤ i := HLi.out.2.1
    by_cases hdone : i = n + 1
    · have HE : Hid (outs = wordsP s) := Lib.hid (WordsTo.done HLi.out (by rw [Hn.out]; omega))
      have hgt : ¬ (i : Int) ≤ (n : Int) := by omega
      clear hdone
      go_wp2_with fail
      go_ret
      exact ⟨⟨_, rfl, by rw [← HE.out]; exact HOi.out⟩, HBi.out⟩
    have hin : i ≤ n := by omega
    clear hdone
    by_cases hend : i = n ∨ (i < n ∧ bl (s.getD i 0) = true)
    · have HNx : Hid (WordsTo s (i + 1) [] (if cur = [] then outs else outs ++ [cur])) := Lib.hid (WordsTo.gap HLi.out (by rw [Hn.out]; rcases hend with h | h; exact .inl h.symm; exact .inr h))
      have hkey : (i = n) ∨ (i < n ∧ s.getD i 0 = 32) ∨ (i < n ∧ s.getD i 0 = 9) := by
        rcases hend with h | ⟨h, h2⟩
        · exact .inl h
        · unfold bl at h2
          rw [Bool.or_eq_true, beq_iff_eq, beq_iff_eq] at h2
          rcases h2 with h2 | h2
          · exact .inr (.inl ⟨h, h2⟩)
          · exact .inr (.inr ⟨h, h2⟩)
      clear hend
      have HBz := Lib.hid HBi.out.size
      by_cases hnil : cur = []
      · subst hnil
        rw [if_pos rfl] at HNx
        have hmk : mkS [] = ⟨#[]⟩ := rfl
        rw [hmk]
        rcases hkey with rfl | ⟨hlt, hc⟩ | ⟨hlt, hc⟩
        · go_wp2_with fail
          go_roundg (gk - 1)
          case measure => omega
          case rel => exact ⟨i + 1, [], outs, HOi, rfl, by go_num, by omega, HBi, HNx⟩
        · have hlt' : i < (mkS s).size := by omega
          have hx : ((mkS s)[i].toNat : Int) = 32 := by rw [at_mk s i hlt', hc]; rfl
          clear hc
          go_wp2_with fail
          go_roundg (gk - 1)
          case measure => omega
          case rel => exact ⟨i + 1, [], outs, HOi, rfl, by go_num, by omega, HBi, HNx⟩
        · have hlt' : i < (mkS s).size := by omega
          have hx : ((mkS s)[i].toNat : Int) = 9 := by rw [at_mk s i hlt', hc]; rfl
          clear hc
          go_wp2_with fail
          go_roundg (gk - 1)
          case measure => omega
          case rel => exact ⟨i + 1, [], outs, HOi, rfl, by go_num, by omega, HBi, HNx⟩
      · rw [if_neg hnil] at HNx
        have q1 : (mkS cur).toList.isEmpty = false := by rw [mkS_toList]; cases cur with | nil => exact absurd rfl hnil | cons a l => rfl
        have q2 : ¬ (mkS cur).toList = [] := by rw [mkS_toList]; exact hnil
        have q3 : ((mkS cur).toList == []) = false := beq_false_of_ne q2
        have q4 : ((mkS cur).toList != []) = true := by rw [bne_iff_ne]; exact q2
        rcases hkey with rfl | ⟨hlt, hc⟩ | ⟨hlt, hc⟩
        · go_wp2_with (at_builtin; refine app_one rfl _ _ 36 9 rfl (.string ⟨#[]⟩) 1 16 Tryz.underlying36 infoStr rfl (by decide) (by decide) w.heap.size _ _ _ (by rfl) HOi.out _ [.string (mkS cur)] (by rfl) rfl (fun x hx => by simp at hx; subst hx; rfl) rfl (by omega) HBz.out ?_; intro p1 W2 HA)
          have HO2 : Hid (OwnS W2 w.heap.size p1 (outs ++ [cur])) := Lib.hid (OwnS.snoc HA.out.own)
          have HB2 := Lib.hid (HBi.out.trans HA.out.below)
          clear HA
          go_roundg (gk - 1)
          case measure => omega
          case rel => exact ⟨i + 1, [], outs ++ [cur], HO2, rfl, by go_num, by omega, HB2, HNx⟩
        · have hlt' : i < (mkS s).size := by omega
          have hx : ((mkS s)[i].toNat : Int) = 32 := by rw [at_mk s i hlt', hc]; rfl
          clear hc
          go_wp2_with (at_builtin; refine app_one rfl _ _ 36 9 rfl (.string ⟨#[]⟩) 1 16 Tryz.underlying36 infoStr rfl (by decide) (by decide) w.heap.size _ _ _ (by rfl) HOi.out _ [.string (mkS cur)] (by rfl) rfl (fun x hx => by simp at hx; subst hx; rfl) rfl (by omega) HBz.out ?_; intro p1 W2 HA)
          have HO2 : Hid (OwnS W2 w.heap.size p1 (outs ++ [cur])) := Lib.hid (OwnS.snoc HA.out.own)
          have HB2 := Lib.hid (HBi.out.trans HA.out.below)
          clear HA
          go_roundg (gk - 1)
          case measure => omega
          case rel => exact ⟨i + 1, [], outs ++ [cur], HO2, rfl, by go_num, by omega, HB2, HNx⟩
        · have hlt' : i < (mkS s).size := by omega
          have hx : ((mkS s)[i].toNat : Int) = 9 := by rw [at_mk s i hlt', hc]; rfl
          clear hc
          go_wp2_with (at_builtin; refine app_one rfl _ _ 36 9 rfl (.string ⟨#[]⟩) 1 16 Tryz.underlying36 infoStr rfl (by decide) (by decide) w.heap.size _ _ _ (by rfl) HOi.out _ [.string (mkS cur)] (by rfl) rfl (fun x hx => by simp at hx; subst hx; rfl) rfl (by omega) HBz.out ?_; intro p1 W2 HA)
          have HO2 : Hid (OwnS W2 w.heap.size p1 (outs ++ [cur])) := Lib.hid (OwnS.snoc HA.out.own)
          have HB2 := Lib.hid (HBi.out.trans HA.out.below)
          clear HA
          go_roundg (gk - 1)
          case measure => omega
          case rel => exact ⟨i + 1, [], outs ++ [cur], HO2, rfl, by go_num, by omega, HB2, HNx⟩
    · have hlt : i < n := by omega
      have hcb : bl (s.getD i 0) = false := by
        cases hb : bl (s.getD i 0) with
        | false => rfl
        | true => exact absurd (.inr ⟨hlt, hb⟩) hend
      have HNx : Hid (WordsTo s (i + 1) (cur ++ [s.getD i 0]) outs) := Lib.hid (WordsTo.byte HLi.out (by rw [Hn.out]; exact hlt) hcb)
      have hlt' : i < (mkS s).size := by omega
      unfold bl at hcb
      rw [Bool.or_eq_false_iff, beq_eq_false_iff_ne, beq_eq_false_iff_ne] at hcb
      have hx32 : (((mkS s)[i].toNat : Int) == 32) = false := by rw [at_mk s i hlt']; exact byte_ne (k := 32) hcb.1
      have hx9 : (((mkS s)[i].toNat : Int) == 9) = false := by rw [at_mk s i hlt']; exact byte_ne (k := 9) hcb.2
      have hne : ((i : Int) == (n : Int)) = false := by rw [beq_eq_false_iff_ne]; omega
      clear hend hcb
      have hex : (mkS s).extract i (i + 1) = mkS [s.getD i 0] := by
        rw [cut_mk, take_snoc (by rw [Hn.out]; exact hlt), List.drop_left' (by rw [List.length_take, Hn.out]; omega)]
      have hD1 : (mkS [s.getD i 0]).size = 1 := by rw [mkS_size]; rfl
      have HE := Lib.hid (mkS_append cur [s.getD i 0])
      have q0 : ¬ (mkS cur).size + 1 > 9223372036854775807 := by rw [mkS_size]; omega
      have q1 : (i : Int) + 1 ≤ (n : Int) := by omega
      generalize mkS [s.getD i 0] = D at *
      have e1 := HE.out
      go_wp2_with fail
      go_roundg (gk - 1)
      case measure => omega
      case rel => exact ⟨i + 1, _, outs, HOi, by rw [List.getD_eq_getElem?_getD], by go_num, by omega, HBi, HNx⟩
end Go.Proofs.YtdldochhondifaaGreatDoor
namespace Go.Proofs.YtdldochhondifaaGreatDoor
open Go.RowKit
attribute [local go_sem] Oper.semAt_some

set_option maxRecDepth 100000 in
set_option maxHeartbeats 4000000 in
theorem readGlobal_any (ws : List (List UInt8)) (v : Value) (B : Nat) (w : World) (hv : OwnS w B v ws) (hl : ws.length ≤ 1000000) (hsz : ∀ x ∈ ws, x.length ≤ 1000000) :
    Calls Tryz.prog 39 #[v] w fun e w' => GlPost w (globP ws) e w' ∧ Below w.heap.size w w' := by
  obtain ⟨m, hm⟩ : ∃ m, ws.length = m := ⟨_, rfl⟩
  obtain ⟨W1, hW1⟩ : ∃ W1, W1 = w.alloc (.cells #[.string ⟨#[]⟩, .int .i64 0, .slice none 0 0] 79) := ⟨_, rfl⟩
  have hz1 : W1.heap.size = w.heap.size + 1 := by rw [hW1]; simp
  have HB1 : Hid (Below w.heap.size w W1) := Lib.hid (by rw [hW1]; exact (Below.refl _ _).alloc (Nat.le_refl _) _)
  have HR1 : Hid (Blk W1 w.heap.size 79 #[.string ⟨#[]⟩, .int .i64 0, .slice none 0 0]) := Lib.hid (by rw [hW1]; exact Blk.new _ _ _)
  obtain ⟨wA, wc, hwv⟩ := hv.len
  subst hwv
  rw [hm] at hv ⊢
  have Hm := Lib.hid hm
  have Hsz := Lib.hid hsz
  have HV := Lib.hid hv
  rw [hm] at hl
  clear hv hm hsz
  go_enter Tryz.func39, Tryz.ntmps39
  go_upto_region 1 with fail
  rw [← hW1]
  clear hW1
  go_upto_region 2 with fail
  have HB2 : Hid (Below w.heap.size w (W1.alloc (.cells #[.string ⟨#[]⟩, .int .i64 0, .slice none 0 0] 79))) := Lib.hid (HB1.out.alloc (by omega) _)
  have HG2 : Hid (Blk (W1.alloc (.cells #[.string ⟨#[]⟩, .int .i64 0, .slice none 0 0] 79)) W1.heap.size 79 #[.string ⟨#[]⟩, .int .i64 0, .slice none 0 0]) := Lib.hid (Blk.new _ _ _)
  have HR2 := Lib.hid (HR1.out.alloc (.cells #[.string ⟨#[]⟩, .int .i64 0, .slice none 0 0] 79))
  generalize W1.alloc (.cells #[.string ⟨#[]⟩, .int .i64 0, .slice none 0 0] 79) = W2 at *
  obtain ⟨g4, hg4⟩ : ∃ g4, W1.heap.size = g4 := ⟨_, rfl⟩
  rw [hg4] at hz1 HG2
  rw [← hz1]
  have Hz1 := Lib.hid hz1
  clear hg4 HB1 HR1
  have x0 := HG2.out.cell 0
  have x1 := HG2.out.cell 1
  have x2 := HG2.out.cell 2
  have f0 := HR2.out.frozen 0
  have f1 := HR2.out.frozen 1
  have f2 := HR2.out.frozen 2
  have y0 := HR2.out.cell 0
  have y1 := HR2.out.cell 1
  have y2 := HR2.out.cell 2
  have ne1 : ¬ w.heap.size = g4 := by omega
  have ne2 : ¬ g4 = w.heap.size := by omega
  clear hz1
  by_cases h3 : m < 3
  · have HE : Hid (globP ws = none) := Lib.hid (by unfold globP; rw [if_neg (by rw [Hm.out]; omega)])
    have k3 : (m : Int) < 3 := by omega
    clear h3
    go_wp2_with fail
    refine end_cell_tmp rfl rfl (((HR2.out.set_ 0 (.string ⟨#[]⟩)).set_ 1 (.int .i64 0)).set_ 2 (.slice none 0 0)) Tryz.underlying79 rfl (by kernel_rfl) rfl ⟨⟨⟨#[]⟩, 0, none, 0, 0, false, rfl, by rw [HE.out]; rfl, fun g hg => by rw [HE.out] at hg; cases hg⟩, ?_⟩
    exact ((HB2.out.setCell (Nat.le_refl _) _).setCell (Nat.le_refl _) _).setCell (Nat.le_refl _) _
  · have k3 : ¬ (m : Int) < 3 := by omega
    obtain ⟨nm, hnm⟩ : ∃ nm, ws[1]? = some nm := ⟨ws[1]'(by rw [Hm.out]; omega), List.getElem?_eq_getElem _⟩
    have hwn : nm = ws.getD 1 [] := by rw [List.getD_eq_getElem?_getD, hnm]; rfl
    obtain ⟨b, c, hbe, _, hb1, hbc⟩ := (show OwnS w B (.slice wA ws.length wc) ws from by rw [Hm.out]; exact HV.out).at_ hnm
    have ge1 : wA = some ⟨b, 0, none⟩ := (Value.slice.inj hbe).1
    subst ge1
    have HCell : Hid (∀ (k : Nat) (x : List UInt8), ws[k]? = some x → w.cell? ⟨b, k, none⟩ = some (.string (mkS x))) := Lib.hid fun k x hx => by
      obtain ⟨b', c', e, _, _, hh⟩ := (show OwnS w B (.slice (some ⟨b, 0, none⟩) ws.length wc) ws from by rw [Hm.out]; exact HV.out).at_ hx
      have e1 := (Value.slice.inj e).1
      injection e1 with e1
      injection e1 with e1
      subst e1
      exact hh
    have Hb1 := Lib.hid hb1
    have hc1 : W2.cell? ⟨b, 1, none⟩ = some (.string (mkS nm)) := (bcell HB2.out hb1).trans hbc
    have HNm := Lib.hid (GoodName_any (mkS nm) W2 (by rw [mkS_size]; have := Hsz.out nm (List.mem_of_getElem? hnm); omega))
    have k1 : (1 : Int) < (m : Int) := by omega
    obtain ⟨ok, hok⟩ : ∃ ok, nameS (mkS nm) = ok := ⟨_, rfl⟩
    have Hok := Lib.hid hok
    have Hwn := Lib.hid hwn
    have Hnm := Lib.hid hnm
    obtain ⟨q, hq⟩ : ∃ q, m = q + 2 := ⟨m - 2, by omega⟩
    clear hnm hwn hbe hb1 hbc hok h3
    go_upto_region 2 with fail
    go_wp2_with fail
    refine HNm.out.mono ?_
    rintro e W3 ⟨rfl, rfl⟩
    rw [Hok.out]
    clear HNm
    cases ok with
    | false =>
      have HE : Hid (globP ws = none) := Lib.hid (by unfold globP; rw [if_neg (by rw [← Hwn.out, Hok.out]; simp)])
      go_wp2_with fail
      refine end_cell_tmp rfl rfl (((HR2.out.set_ 0 (.string ⟨#[]⟩)).set_ 1 (.int .i64 0)).set_ 2 (.slice none 0 0)) Tryz.underlying79 rfl (by kernel_rfl) rfl ⟨⟨⟨#[]⟩, 0, none, 0, 0, false, rfl, by rw [HE.out]; rfl, fun g hg => by rw [HE.out] at hg; cases hg⟩, ?_⟩
      exact ((HB2.out.setCell (Nat.le_refl _) _).setCell (Nat.le_refl _) _).setCell (Nat.le_refl _) _
    | true =>
      have z0 := HG2.out.frozen 0
      subst hq
      go_upto_region 5 with fail
      have HN2 : Hid (GNow (W2.setCell ⟨g4, 0, none⟩ (.string (mkS nm))) w.heap.size g4 nm 0 [] (.slice none 0 0)) := Lib.hid ⟨HG2.out.set_ 0 _, OwnInts.nil _ _, rfl⟩
      have HR3 : Hid (Blk (W2.setCell ⟨g4, 0, none⟩ (.string (mkS nm))) w.heap.size 79 #[.string ⟨#[]⟩, .int .i64 0, .slice none 0 0]) := Lib.hid (HR2.out.far (by show w.heap.size ≠ g4; have := Hz1.out; omega) _)
      have HB3 : Hid (Below w.heap.size w (W2.setCell ⟨g4, 0, none⟩ (.string (mkS nm)))) := Lib.hid (HB2.out.setCell (by show w.heap.size ≤ g4; have := Hz1.out; omega) _)
      generalize W2.setCell ⟨g4, 0, none⟩ (.string (mkS nm)) = W4 at *
      clear HG2 HR2 HB2 x0 x1 x2 f0 f1 f2 y0 y1 y2 z0 hc1 k1 k3
      go_upto_region 6 with fail
      go_loopg [5] q (fun gk iv wx => ∃ (i : Nat) (l : List Int) (sz : Int) (A : Option Addr) (n c' : Nat), iv = .int .i64 ((i + 2 : Nat) : Int) ∧ i + gk = q ∧ Hid (numsP ((ws.drop 2).take i) = some l) ∧ Hid (GNow wx w.heap.size g4 nm sz l (.slice A n c')) ∧ Hid (Blk wx w.heap.size 79 #[.string ⟨#[]⟩, .int .i64 0, .slice none 0 0]) ∧ Hid (Below w.heap.size w wx))
      case atStart => exact ⟨0, [], 0, none, 0, 0, rfl, by omega, Lib.hid rfl, HN2, HR3, HB3⟩
      case round =>
        obtain ⟨i, l, sz, A, n, c', rfl, hi, HL, HG, HR, HB⟩ := hrel
        clear HN2 HR3 HB3
        have x0 := HG.out.blk.cell 0
        have x1 := HG.out.blk.cell 1
        have x2 := HG.out.blk.cell 2
        have f0 := HR.out.frozen 0
        have f1 := HR.out.frozen 1
        have f2 := HR.out.frozen 2
        rcases gk with _ | gk
        · obtain rfl : i = q := by omega
          have hall : numsP (ws.drop 2) = some l := by
            have := HL.out
            rwa [List.take_of_length_le (by rw [List.length_drop, Hm.out]; omega)] at this
          have HE : Hid (globP ws = some ⟨mkS nm, l.headD 0, l.tail⟩) := Lib.hid (by
            unfold globP
            rw [← Hwn.out, hall, Hm.out, if_pos ⟨by omega, Hok.out⟩]
            rfl)
          have y0 := HR.out.cell 0
          have y1 := HR.out.cell 1
          have y2 := HR.out.cell 2
          have k4 : ¬ ((i + 2 : Nat) : Int) < ((i + 2 : Nat) : Int) := by omega
          clear hall
          go_wp2_with fail
          refine end_cell_tmp rfl rfl (((HR.out.set_ 0 (.string (mkS nm))).set_ 1 (.int .i64 sz)).set_ 2 (.slice A n c')) Tryz.underlying79 rfl (by kernel_rfl) rfl ⟨⟨mkS nm, sz, A, n, c', true, rfl, by rw [HE.out]; rfl, fun g hg => ?_⟩, ?_⟩
          · rw [HE.out] at hg
            cases hg
            refine ⟨rfl, HG.out.head.symm, own_at HG.out.own fun k hk => ?_⟩
            have hne : k ≠ w.heap.size := fun e => ownBlk_ne HG.out.own HR.out (by decide) (e ▸ hk)
            exact (Below.heap_setCell _ ⟨w.heap.size, 2, none⟩ _ k hne).trans ((Below.heap_setCell _ ⟨w.heap.size, 1, none⟩ _ k hne).trans (Below.heap_setCell _ ⟨w.heap.size, 0, none⟩ _ k hne))
          · exact ((HB.out.setCell (Nat.le_refl _) _).setCell (Nat.le_refl _) _).setCell (Nat.le_refl _) _
        · have hil : i < q := by omega
          obtain ⟨x, hx⟩ : ∃ x, ws[i + 2]? = some x := ⟨ws[i + 2]'(by rw [Hm.out]; omega), List.getElem?_eq_getElem _⟩
          have hcx : wr.cell? ⟨b, i + 2, none⟩ = some (.string (mkS x)) := (bcell HB.out Hb1.out).trans (HCell.out _ x hx)
          have k0 : (0 : Int) ≤ ((i + 2 : Nat) : Int) := Int.natCast_nonneg _
          have k1 : ((i + 2 : Nat) : Int) < ((q + 2 : Nat) : Int) := by omega
          have HNu := Lib.hid (ReadDigits_any x (by have := Hsz.out x (List.mem_of_getElem? hx); omega) wr)
          have hdx : (ws.drop 2)[i]? = some x := by rw [List.getElem?_drop, Nat.add_comm 2 i]; exact hx
          have Hdx := Lib.hid hdx
          clear hx hdx
          go_wp2_with fail
          refine HNu.out.mono ?_
          rintro e W3 ⟨⟨r, ok, hr, rfl, hd⟩, rfl⟩
          have HD := Lib.hid hd
          have HrI := Lib.hid hr
          clear hd hr HNu hcx
          have z1 := HG.out.blk.frozen 1
          have z2 := HG.out.blk.frozen 2
          cases ok with
          | false =>
            have hnone : globP ws = none := by
              unfold globP
              split
              · rw [numsP_stop Hdx.out (by rw [HD.out]; rfl)]
                rfl
              · rfl
            have HE := Lib.hid hnone
            have y0 := HR.out.cell 0
            have y1 := HR.out.cell 1
            have y2 := HR.out.cell 2
            clear hnone
            go_wp2_with fail
            refine end_cell_tmp rfl rfl (((HR.out.set_ 0 (.string (mkS nm))).set_ 1 (.int .i64 sz)).set_ 2 (.slice A n c')) Tryz.underlying79 rfl (by kernel_rfl) rfl ⟨⟨mkS nm, sz, A, n, c', false, rfl, by rw [HE.out]; rfl, fun g hg => by rw [HE.out] at hg; cases hg⟩, ?_⟩
            exact ((HB.out.setCell (Nat.le_refl _) _).setCell (Nat.le_refl _) _).setCell (Nat.le_refl _) _
          | true =>
            have hnum : numI x = some r := by rw [HD.out, if_pos rfl]
            have HL2 : Hid (numsP ((ws.drop 2).take (i + 1)) = some (l ++ [r])) := Lib.hid (by rw [List.take_add_one, Hdx.out]; exact numsP_snoc HL.out hnum)
            have HLl : Hid (l.length = i) := Lib.hid (by rw [(numsP_ok _ _ HL.out).1, List.length_take, List.length_drop, Hm.out]; omega)
            clear hnum
            by_cases h0 : i = 0
            · subst h0
              have hl0 : l = [] := List.eq_nil_of_length_eq_zero HLl.out
              subst hl0
              have HG4 : Hid (GNow (wr.setCell ⟨g4, 1, none⟩ (.int .i64 r)) w.heap.size g4 nm r ([] ++ [r]) (.slice A n c')) := Lib.hid ⟨HG.out.blk.set_ 1 _, own_at HG.out.own fun k hk => Below.heap_setCell wr ⟨g4, 1, none⟩ _ k (by intro e; subst e; exact ownBlk_ne HG.out.own HG.out.blk (by decide) hk), rfl⟩
              have HR4 : Hid (Blk (wr.setCell ⟨g4, 1, none⟩ (.int .i64 r)) w.heap.size 79 #[.string ⟨#[]⟩, .int .i64 0, .slice none 0 0]) := Lib.hid (HR.out.far (by show w.heap.size ≠ g4; have := Hz1.out; omega) _)
              have HB4 : Hid (Below w.heap.size w (wr.setCell ⟨g4, 1, none⟩ (.int .i64 r))) := Lib.hid (HB.out.setCell (by show w.heap.size ≤ g4; have := Hz1.out; omega) _)
              clear HG HR HB
              go_wp2_with fail
              go_roundg gk
              case measure => omega
              case rel => exact ⟨0 + 1, [] ++ [r], r, A, n, c', by go_num, by omega, HL2, HG4, HR4, HB4⟩
            · have hi0 : (((i + 2 : Nat) : Int) == 2) = false := by rw [beq_eq_false_iff_ne]; omega
              have hlne : l ≠ [] := fun e => h0 (by rw [← HLl.out, e]; rfl)
              obtain ⟨tn, htn⟩ : ∃ tn, l.tail.length = tn := ⟨_, rfl⟩
              have Htn := Lib.hid htn
              have HOw : Hid (wr.ownsRow w.heap.size 3 1 (.slice A n c') tn (l.tail.map (Value.int .i64))) := Lib.hid (by rw [← htn]; exact HG.out.own)
              have HBz := Lib.hid HB.out.size
              have HBl : Hid (Blk wr g4 79 #[.string (mkS nm), .int .i64 sz, .slice A n c']) := Lib.hid HG.out.blk
              have hlen2 : tn ≤ 1000000 := by rw [← htn, List.length_tail, HLl.out]; omega
              have Hln2 := Lib.hid hlen2
              have Hlne := Lib.hid hlne
              have Hh0 := Lib.hid h0
              clear hlne h0 htn
              go_upto_region 13 with fail
              go_wp2_with (at_builtin; refine app_one rfl _ _ 29 3 rfl (.int .i64 0) 1 8 Tryz.underlying29 infoInt rfl (by decide) (by decide) w.heap.size _ _ _ (by rfl) HOw.out _ [.int .i64 r] (by rfl) rfl (fun x hx => by simp at hx; subst hx; rfl) rfl (by have := Hln2.out; omega) HBz.out ?_; intro v5 w5 HA5; obtain ⟨B4, c4, e4⟩ := row_form HA5.out.own; subst e4; have hb5 := HA5.out.blk HOw.out HBl.out (by decide); have m2b := hb5.cell 2; have f2b := hb5.frozen 2; simp only [List.getElem?_toArray, List.getElem?_cons_succ, List.getElem?_cons_zero] at m2b)
              have HG5 : Hid (GNow (w5.setCell ⟨g4, 2, none⟩ (.slice B4 (tn + 1) c4)) w.heap.size g4 nm sz (l ++ [r]) (.slice B4 (tn + 1) c4)) := Lib.hid (by
                obtain ⟨e1, e2⟩ := tail_snoc (n := r) Hlne.out
                have ho : OwnInts w5 w.heap.size (.slice B4 (tn + 1) c4) (l.tail ++ [r]) := OwnInts.snoc (by rw [Htn.out]; exact HA5.out.own)
                refine ⟨hb5.set_ 2 _, ?_, by rw [e2]; exact HG.out.head⟩
                rw [e1]
                exact own_at ho fun k hk => Below.heap_setCell w5 ⟨g4, 2, none⟩ _ k (by intro e; subst e; exact ownBlk_ne ho hb5 (by decide) hk))
              have HR5 : Hid (Blk (w5.setCell ⟨g4, 2, none⟩ (.slice B4 (tn + 1) c4)) w.heap.size 79 #[.string ⟨#[]⟩, .int .i64 0, .slice none 0 0]) := Lib.hid ((HA5.out.blk HOw.out HR.out (by decide)).far (by show w.heap.size ≠ g4; have := Hz1.out; omega) _)
              have HB5 : Hid (Below w.heap.size w (w5.setCell ⟨g4, 2, none⟩ (.slice B4 (tn + 1) c4))) := Lib.hid ((HB.out.trans HA5.out.below).setCell (by show w.heap.size ≤ g4; have := Hz1.out; omega) _)
              go_roundg gk
              case measure => omega
              case rel => exact ⟨i + 1, l ++ [r], sz, _, _, _, by go_num, by omega, HL2, HG5, HR5, HB5⟩
end Go.Proofs.YtdldochhondifaaGreatDoor
namespace Go.Proofs.YtdldochhondifaaGreatDoor
open Go.RowKit
attribute [local go_sem] Oper.semAt_some

/-- Where a piece lies. -/
structure PcD where
  bx : Nat
  v : Pv
def PcD.In (d : PcD) (k : Nat) : Prop := InV d.bx d.v k
/-- What a piece holds. -/
structure PcE where
  name : List UInt8
  ms : List Mac
  labs : List Int
  places : List Int
  goals : List Int
  calls : List (List UInt8)
def PcOf (w : World) (base : Nat) (d : PcD) (e : PcE) : Prop := PieM w base d.bx e.name (pieRows e.ms e.labs e.places e.goals e.calls d.v)
def entP (y : SecP) : PcE := ⟨y.name, y.st.code.map fun x => x.m, labsI y.st.labs, placesI y.st.labs, y.st.code.map goalI, y.st.code.map callI⟩
section
variable {w w' : World} {base : Nat} {d : PcD} {e : PcE}
theorem PcOf.lt (h : PcOf w base d e) {k : Nat} (hk : d.In k) : k < w.heap.size := PieM.lt h (inPie_iff.2 hk)
theorem PcOf.low (h : PcOf w base d e) {k : Nat} (hk : d.In k) : base ≤ k := PieM.low h (inPie_iff.2 hk)
theorem PcOf.stay (h : PcOf w base d e) (hk : ∀ k, d.In k → w'.heap[k]? = w.heap[k]?) : PcOf w' base d e := PieM.stay h fun k hin => hk k (inPie_iff.1 hin)
theorem PcOf.kinds (h : PcOf w base d e) : w.ownsRow base 39 5 d.v.c e.ms.length (cellsS e.ms) ∧ w.ownsRow base 3 1 d.v.l e.labs.length (e.labs.map (Value.int .i64)) ∧ w.ownsRow base 3 1 d.v.p e.places.length (e.places.map (Value.int .i64)) ∧ w.ownsRow base 3 1 d.v.g e.goals.length (e.goals.map (Value.int .i64)) ∧ w.ownsRow base 9 1 d.v.k e.calls.length (e.calls.map fun l => Value.string (mkS l)) :=
  ⟨(PieM.at_ h (i := 0) rfl).1, (PieM.at_ h (i := 1) rfl).1, (PieM.at_ h (i := 2) rfl).1, (PieM.at_ h (i := 3) rfl).1, (PieM.at_ h (i := 4) rfl).1⟩
theorem PcOf.row (h : PcOf w base d e) {b s n : Nat} {t : TypeId} {v : Value} {xs : List Value} (hv : w.ownsRow b t s v n xs) (h1 : t ≠ 63) (h2 : t ≠ 39) (h3 : t ≠ 3) (h4 : t ≠ 9) {k : Nat} (hk : v.ownBlock = some k) : ¬ d.In k := by
  obtain ⟨r1, r2, r3, r4, r5⟩ := h.kinds
  rintro (e | e | e | e | e | e)
  · subst e
    exact ownBlk_ne hv h.blk h1 hk
  · exact own_two hv r1 h2 k hk e
  · exact own_two hv r2 h3 k hk e
  · exact own_two hv r3 h3 k hk e
  · exact own_two hv r4 h3 k hk e
  · exact own_two hv r5 h4 k hk e
theorem PcOf.far (h : PcOf w base d e) {g : Nat} {t : TypeId} {cs : Array Value} (hb : Blk w g t cs) (h1 : t ≠ 63) (h2 : t ≠ 39) (h3 : t ≠ 3) (h4 : t ≠ 9) : ¬ d.In g := by
  obtain ⟨r1, r2, r3, r4, r5⟩ := h.kinds
  rintro (e | e | e | e | e | e)
  · subst e
    exact h1 (blk_ty hb (PieM.blk h))
  · exact ownBlk_ne r1 hb (fun e => h2 e.symm) e
  · exact ownBlk_ne r2 hb (fun e => h3 e.symm) e
  · exact ownBlk_ne r3 hb (fun e => h3 e.symm) e
  · exact ownBlk_ne r4 hb (fun e => h3 e.symm) e
  · exact ownBlk_ne r5 hb (fun e => h4 e.symm) e
end
/-- All pieces, apart from each other. -/
structure PcsM (w : World) (base : Nat) (ds : List PcD) (es : List PcE) : Prop where
  len : ds.length = es.length
  each : ∀ (i : Nat) (d : PcD) (e : PcE), ds[i]? = some d → es[i]? = some e → PcOf w base d e
  apart : ∀ (i j : Nat) (d d' : PcD), ds[i]? = some d → ds[j]? = some d' → i ≠ j → ∀ k, d.In k → ¬ d'.In k
def InPcs (ds : List PcD) (k : Nat) : Prop := ∃ d ∈ ds, d.In k
section
variable {w w' : World} {base : Nat} {ds : List PcD} {es : List PcE}
theorem PcsM.nil (w : World) (base : Nat) : PcsM w base [] [] := ⟨rfl, fun i d e h => by simp at h, fun i j d d' h => by simp at h⟩
theorem PcsM.of (h : PcsM w base ds es) {i : Nat} {d : PcD} (hi : ds[i]? = some d) : ∃ e, es[i]? = some e ∧ PcOf w base d e := by
  have hl := (List.getElem?_eq_some_iff.1 hi).1
  rw [h.len] at hl
  exact ⟨es[i], List.getElem?_eq_getElem hl, h.each i d _ hi (List.getElem?_eq_getElem hl)⟩
theorem PcsM.lt (h : PcsM w base ds es) {k : Nat} (hk : InPcs ds k) : k < w.heap.size := by
  obtain ⟨d, hd, hk⟩ := hk
  obtain ⟨i, hi⟩ := List.mem_iff_getElem?.1 hd
  obtain ⟨e, _, hs⟩ := h.of hi
  exact hs.lt hk
theorem PcsM.low (h : PcsM w base ds es) {k : Nat} (hk : InPcs ds k) : base ≤ k := by
  obtain ⟨d, hd, hk⟩ := hk
  obtain ⟨i, hi⟩ := List.mem_iff_getElem?.1 hd
  obtain ⟨e, _, hs⟩ := h.of hi
  exact hs.low hk
theorem PcsM.stay (h : PcsM w base ds es) (hk : ∀ k, InPcs ds k → w'.heap[k]? = w.heap[k]?) : PcsM w' base ds es :=
  ⟨h.len, fun i d e hi he => (h.each i d e hi he).stay fun k hin => hk k ⟨d, List.mem_of_getElem? hi, hin⟩, h.apart⟩
theorem PcsM.below (h : PcsM w base ds es) (hb : Below w.heap.size w w') : PcsM w' base ds es := h.stay fun k hk => hb.block k (h.lt hk)
theorem PcsM.row (h : PcsM w base ds es) {b s n : Nat} {t : TypeId} {v : Value} {xs : List Value} (hv : w.ownsRow b t s v n xs) (h1 : t ≠ 63) (h2 : t ≠ 39) (h3 : t ≠ 3) (h4 : t ≠ 9) {k : Nat} (hk : v.ownBlock = some k) : ¬ InPcs ds k := by
  rintro ⟨d, hd, hin⟩
  obtain ⟨i, hi⟩ := List.mem_iff_getElem?.1 hd
  obtain ⟨e, _, hs⟩ := h.of hi
  exact hs.row hv h1 h2 h3 h4 hk hin
theorem PcsM.far (h : PcsM w base ds es) {g : Nat} {t : TypeId} {cs : Array Value} (hb : Blk w g t cs) (h1 : t ≠ 63) (h2 : t ≠ 39) (h3 : t ≠ 3) (h4 : t ≠ 9) : ¬ InPcs ds g := by
  rintro ⟨d, hd, hin⟩
  obtain ⟨i, hi⟩ := List.mem_iff_getElem?.1 hd
  obtain ⟨e, _, hs⟩ := h.of hi
  exact hs.far hb h1 h2 h3 h4 hin
/-- One piece has changed. -/
theorem PcsM.put (h : PcsM w base ds es) {i : Nat} {d d' : PcD} {e' : PcE} (hi : ds[i]? = some d) (ho : OutS d.In w w') (hs : PcOf w' base d' e') (hk : ∀ k, d'.In k → d.In k ∨ w.heap.size ≤ k) : PcsM w' base (ds.set i d') (es.set i e') := by
  have hil := (List.getElem?_eq_some_iff.1 hi).1
  have hlt : ∀ (j : Nat) (f : PcD), ds[j]? = some f → ∀ k, f.In k → k < w.heap.size := fun j f hj k hin => h.lt ⟨f, List.mem_of_getElem? hj, hin⟩
  refine ⟨by rw [List.length_set, List.length_set, h.len], fun j f g hj hg => ?_, fun j l f f' hj hl hne k hin hin' => ?_⟩
  · by_cases e : j = i
    · subst e
      rw [List.getElem?_set_self hil] at hj
      rw [List.getElem?_set_self (by rw [← h.len]; exact hil)] at hg
      cases hj; cases hg
      exact hs
    · rw [List.getElem?_set_ne (fun e' => e e'.symm)] at hj hg
      exact (h.each j f g hj hg).stay fun k hin => ho.block k (hlt j f hj k hin) (h.apart j i f d hj hi e k hin)
  · by_cases e : j = i
    · subst e
      rw [List.getElem?_set_self hil] at hj
      rw [List.getElem?_set_ne (fun e' => hne e')] at hl
      cases hj
      rcases hk k hin with h1 | h1
      · exact h.apart j l d f' hi hl hne k h1 hin'
      · have := hlt l f' hl k hin'
        omega
    · by_cases e2 : l = i
      · subst e2
        rw [List.getElem?_set_self hil] at hl
        rw [List.getElem?_set_ne (fun e' => e e'.symm)] at hj
        cases hl
        rcases hk k hin' with h1 | h1
        · exact h.apart j l f d hj hi hne k hin h1
        · have := hlt j f hj k hin
          omega
      · rw [List.getElem?_set_ne (fun e' => e e'.symm)] at hj
        rw [List.getElem?_set_ne (fun e' => e2 e'.symm)] at hl
        exact h.apart j l f f' hj hl hne k hin hin'
theorem inPcs_set {i : Nat} {d d' : PcD} {B : Nat} (hi : ds[i]? = some d) (hk : ∀ k, d'.In k → d.In k ∨ B ≤ k) {k : Nat} (h : InPcs (ds.set i d') k) : InPcs ds k ∨ B ≤ k := by
  obtain ⟨f, hf, hin⟩ := h
  rcases List.mem_or_eq_of_mem_set hf with hf | rfl
  · exact .inl ⟨f, hf, hin⟩
  · exact (hk k hin).imp (fun h => ⟨d, List.mem_of_getElem? hi, h⟩) id
/-- A piece more. -/
theorem PcsM.snoc (h : PcsM w' base ds es) {d : PcD} {e : PcE} (hs : PcOf w' base d e) (hf : ∀ k, d.In k → ¬ InPcs ds k) : PcsM w' base (ds ++ [d]) (es ++ [e]) := by
  have hl := h.len
  refine ⟨by simp [hl], fun i f g hi hg => ?_, fun i j f f' hi hj hne k hin hin' => ?_⟩
  · rcases Nat.lt_or_ge i ds.length with hlt | hge
    · rw [List.getElem?_append_left hlt] at hi
      rw [List.getElem?_append_left (by omega)] at hg
      exact h.each i f g hi hg
    · rw [List.getElem?_append_right hge] at hi
      rw [List.getElem?_append_right (by omega)] at hg
      have : i - ds.length = 0 := by
        have := (List.getElem?_eq_some_iff.1 hi).1
        simp at this
        omega
      rw [this] at hi
      rw [show i - es.length = 0 by omega] at hg
      cases hi; cases hg
      exact hs
  · have key : ∀ (m : Nat) (x : PcD), (ds ++ [d])[m]? = some x → (m < ds.length ∧ ds[m]? = some x) ∨ (m = ds.length ∧ x = d) := fun m x hm => by
      rcases Nat.lt_or_ge m ds.length with hlt | hge
      · rw [List.getElem?_append_left hlt] at hm
        exact .inl ⟨hlt, hm⟩
      · rw [List.getElem?_append_right hge] at hm
        have h0 := (List.getElem?_eq_some_iff.1 hm).1
        simp at h0
        have h0' : m - ds.length = 0 := by omega
        rw [h0'] at hm
        cases hm
        exact .inr ⟨by omega, rfl⟩
    rcases key i f hi with ⟨a, b⟩ | ⟨a, rfl⟩
    · rcases key j f' hj with ⟨a', b'⟩ | ⟨a', rfl⟩
      · exact h.apart i j f f' b b' hne k hin hin'
      · exact hf k hin' ⟨f, List.mem_of_getElem? b, hin⟩
    · rcases key j f' hj with ⟨a', b'⟩ | ⟨a', rfl⟩
      · exact hf k hin ⟨f', List.mem_of_getElem? b', hin'⟩
      · omega
end
def ptrsP (ds : List PcD) : List Value := ds.map fun d => Value.pointer (some ⟨d.bx, 0, none⟩)
def OwnPc (w : World) (base : Nat) (v : Value) (ds : List PcD) : Prop := w.ownsRow base 61 1 v ds.length (ptrsP ds)
theorem OwnPc.nil (w : World) (base : Nat) : OwnPc w base (.slice none 0 0) [] := World.ownsRow_nil w base 61 1
theorem OwnPc.snoc {w : World} {base : Nat} {v : Value} {ds : List PcD} {d : PcD} (h : w.ownsRow base 61 1 v (ds.length + 1) (ptrsP ds ++ [.pointer (some ⟨d.bx, 0, none⟩)])) : OwnPc w base v (ds ++ [d]) := by
  unfold OwnPc ptrsP
  rw [List.length_append, List.map_append]
  exact h
theorem OwnPc.at_ {w : World} {base : Nat} {v : Value} {ds : List PcD} (h : OwnPc w base v ds) {i : Nat} {d : PcD} (hi : ds[i]? = some d) :
    ∃ b c, v = .slice (some ⟨b, 0, none⟩) ds.length c ∧ base ≤ b ∧ b < w.heap.size ∧ w.cell? ⟨b, i, none⟩ = some (.pointer (some ⟨d.bx, 0, none⟩)) := by
  have hlt := (List.getElem?_eq_some_iff.1 hi).1
  rcases h.2 with ⟨_, h0⟩ | ⟨g, cap, cur, e1, hg, hh, _⟩
  · omega
  · have hc := World.ownsRow.cells h (g := g) (by rw [e1]; rfl)
    have hadd : ∀ j, (⟨g, 0, none⟩ : Addr).add j = ⟨g, j, none⟩ := fun j => by unfold Addr.add; split <;> simp_all
    refine ⟨g, cap, e1, hg, (Array.getElem?_eq_some_iff.1 hh).1, ?_⟩
    have := hc i (.pointer (some ⟨d.bx, 0, none⟩)) (by unfold ptrsP; rw [List.getElem?_map, hi]; rfl)
    rwa [hadd] at this
theorem ptrsP_set {ds : List PcD} {i : Nat} {d d' : PcD} (hi : ds[i]? = some d) (hb : d'.bx = d.bx) : ptrsP (ds.set i d') = ptrsP ds := by
  unfold ptrsP
  rw [List.map_set, hb]
  refine List.ext_getElem? fun j => ?_
  by_cases hj : i = j
  · subst hj
    rw [List.getElem?_set_self (by rw [List.length_map]; exact (List.getElem?_eq_some_iff.1 hi).1), List.getElem?_map, hi]
    rfl
  · rw [List.getElem?_set_ne hj]
theorem infoPcP : (Tryz.prog.info? 61).map (fun i => (i.zero, i.size, i.bytes)) = some (some (.pointer none), 1, 8) := by kernel_rfl

structure PWh (w : World) (base wx gi gf : Nat) (gv sv rv : Value) (gl : List (Glob × Value)) (ds : List PcD) (es : List PcE) (rl : List (Rout × Value)) : Prop where
  blk : Blk w wx 43 #[gv, rv]
  globs : OwnGl w base gv gl
  ptrs : OwnPc w base sv ds
  pcs : PcsM w base ds es
  rts : OwnRts w base rv rl
  sep : ∀ g ∈ gl, ∀ k, g.2.ownBlock = some k → ¬ InPcs ds k
  res : Blk w gi 43 #[.slice none 0 0, .slice none 0 0]
  flt : Blk w gf 24 #[.int .i64 0, .int .i64 0]
  ne : gi ≠ wx
  ge : base ≤ wx
def InPw (wx : Nat) (gv sv rv : Value) (ds : List PcD) (k : Nat) : Prop := k = wx ∨ gv.ownBlock = some k ∨ sv.ownBlock = some k ∨ rv.ownBlock = some k ∨ InPcs ds k
section
variable {w w' : World} {B wx gi gf : Nat} {gv sv rv : Value} {gl : List (Glob × Value)} {ds : List PcD} {es : List PcE} {rl : List (Rout × Value)}
theorem PWh.lt (h : PWh w B wx gi gf gv sv rv gl ds es rl) {k : Nat} (hk : InPw wx gv sv rv ds k) : k < w.heap.size := by
  rcases hk with rfl | hk | hk | hk | hk
  · exact h.blk.lt
  · exact own_lt h.globs.row hk
  · exact own_lt h.ptrs hk
  · exact own_lt h.rts.row hk
  · exact h.pcs.lt hk
theorem PWh.low (h : PWh w B wx gi gf gv sv rv gl ds es rl) {k : Nat} (hk : InPw wx gv sv rv ds k) : B ≤ k := by
  rcases hk with rfl | hk | hk | hk | hk
  · exact h.ge
  · exact own_block_ge h.globs.row k hk
  · exact own_block_ge h.ptrs k hk
  · exact own_block_ge h.rts.row k hk
  · exact h.pcs.low hk
/-- Whatever leaves its blocks alone. -/
theorem PWh.below (h : PWh w B wx gi gf gv sv rv gl ds es rl) (hb : Below w.heap.size w w') : PWh w' B wx gi gf gv sv rv gl ds es rl :=
  ⟨h.blk.below hb h.blk.lt, ⟨own_at h.globs.row fun k e => hb.block k (own_lt h.globs.row e), fun g hg => (h.globs.inits g hg).below hb rfl⟩, own_at h.ptrs fun k e => hb.block k (own_lt h.ptrs e), h.pcs.below hb, ⟨own_at h.rts.row fun k e => hb.block k (own_lt h.rts.row e), fun r hr => (h.rts.codes r hr).below hb rfl⟩, h.sep, h.res.below hb h.res.lt, h.flt.below hb h.flt.lt, h.ne, h.ge⟩
/-- A piece has changed. -/
theorem PWh.put (h : PWh w B wx gi gf gv sv rv gl ds es rl) {i : Nat} {d d' : PcD} {e' : PcE} (hi : ds[i]? = some d) (ho : OutS d.In w w') (hs : PcOf w' B d' e') (hbx : d'.bx = d.bx) (hk : ∀ k, d'.In k → d.In k ∨ w.heap.size ≤ k) :
    PWh w' B wx gi gf gv sv rv gl (ds.set i d') (es.set i e') rl ∧ OutS (InPw wx gv sv rv ds) w w' ∧ ∀ k, InPw wx gv sv rv (ds.set i d') k → InPw wx gv sv rv ds k ∨ w.heap.size ≤ k := by
  obtain ⟨e, _, hse⟩ := h.pcs.of hi
  have hm : ∀ k, d.In k → InPcs ds k := fun k hin => ⟨d, List.mem_of_getElem? hi, hin⟩
  have hb : ∀ {g : Nat} {t : TypeId} {cs : Array Value}, Blk w g t cs → t ≠ 63 → t ≠ 39 → t ≠ 3 → t ≠ 9 → Blk w' g t cs := fun hb h1 h2 h3 h4 => (ho.block _ hb.lt (hse.far hb h1 h2 h3 h4)).trans hb
  refine ⟨⟨hb h.blk (by decide) (by decide) (by decide) (by decide), ⟨?_, fun g hg => ?_⟩, ?_, h.pcs.put hi ho hs hk, ⟨?_, fun r hr => ?_⟩, fun g hg k hk1 hk2 => ?_, hb h.res (by decide) (by decide) (by decide) (by decide), hb h.flt (by decide) (by decide) (by decide) (by decide), h.ne, h.ge⟩, ho.wider fun k _ hin => .inr (.inr (.inr (.inr (hm k hin)))), fun k hin => ?_⟩
  · exact own_at h.globs.row fun k e => ho.block k (own_lt h.globs.row e) (hse.row h.globs.row (by decide) (by decide) (by decide) (by decide) e)
  · have hg' := h.globs.inits g hg
    exact own_at hg' fun k e => ho.block k (own_lt hg' e) fun hin => h.sep g hg k e (hm k hin)
  · unfold OwnPc
    rw [List.length_set, ptrsP_set hi hbx]
    exact own_at h.ptrs fun k e => ho.block k (own_lt h.ptrs e) (hse.row h.ptrs (by decide) (by decide) (by decide) (by decide) e)
  · exact own_at h.rts.row fun k e => ho.block k (own_lt h.rts.row e) (hse.row h.rts.row (by decide) (by decide) (by decide) (by decide) e)
  · have hr' := h.rts.codes r hr
    exact own_at hr' fun k e => ho.block k (own_lt hr' e) (hse.row hr' (by decide) (by decide) (by decide) (by decide) e)
  · rcases inPcs_set hi hk hk2 with e | e
    · exact h.sep g hg k hk1 e
    · have := own_lt (h.globs.inits g hg) hk1
      omega
  · rcases hin with e | e | e | e | e
    · exact .inl (.inl e)
    · exact .inl (.inr (.inl e))
    · exact .inl (.inr (.inr (.inl e)))
    · exact .inl (.inr (.inr (.inr (.inl e))))
    · exact (inPcs_set hi hk e).imp (fun e => .inr (.inr (.inr (.inr e)))) id
/-- A global more: ahead of all pieces. -/
theorem PWh.addGlob (h : PWh w B wx gi gf gv sv rv gl [] [] rl) {g : Glob} {iv gv' : Value} {H : Nat} (hap : Appended w B 79 3 gv (gl.length + 1) (globCells gl ++ [.string g.name, .int .i64 g.size, iv]) H gv' w') (hH : w.heap.size ≤ H) (hiv : OwnInts w B iv g.init) :
    PWh (w'.setCell ⟨wx, 0, none⟩ gv') B wx gi gf gv' sv rv (gl ++ [(g, iv)]) [] [] rl ∧ OutS (InPw wx gv sv rv []) w (w'.setCell ⟨wx, 0, none⟩ gv') ∧ ∀ k, InPw wx gv' sv rv [] k → InPw wx gv sv rv [] k ∨ w.heap.size ≤ k := by
  have hbx := hap.blk h.globs.row h.blk (by decide)
  have hfar : ∀ k, k ≠ wx → (w'.setCell ⟨wx, 0, none⟩ gv').heap[k]? = w'.heap[k]? := fun k hk => Below.heap_setCell w' ⟨wx, 0, none⟩ gv' k hk
  have hst : ∀ k, k < w.heap.size → k ≠ wx → gv.ownBlock ≠ some k → (w'.setCell ⟨wx, 0, none⟩ gv').heap[k]? = w.heap[k]? := fun k hlt h1 h2 => (hfar k h1).trans (hap.2.2.1.block k hlt (fun e => h2 e.symm))
  have hrow : ∀ {b s n : Nat} {t : TypeId} {v : Value} {xs : List Value}, w.ownsRow b t s v n xs → t ≠ 43 → t ≠ 79 → (w'.setCell ⟨wx, 0, none⟩ gv').ownsRow b t s v n xs := fun hv h1 h2 => own_at hv fun k e => hst k (own_lt hv e) (by rintro rfl; exact ownBlk_ne hv h.blk h1 e) (own_two hv h.globs.row h2 k e)
  have hblk : ∀ {g : Nat} {t : TypeId} {cs : Array Value}, Blk w g t cs → g ≠ wx → t ≠ 79 → Blk (w'.setCell ⟨wx, 0, none⟩ gv') g t cs := fun hb h1 h2 => (hst _ hb.lt h1 (fun e => ownBlk_ne h.globs.row hb (fun e => h2 e.symm) e)).trans hb
  refine ⟨⟨hbx.set_ 0 gv', ⟨?_, fun g' hg' => ?_⟩, hrow h.ptrs (by decide) (by decide), PcsM.nil _ _, ⟨hrow h.rts.row (by decide) (by decide), fun r hr => hrow (h.rts.codes r hr) (by decide) (by decide)⟩, fun g hg k _ hk => by obtain ⟨d, hd, _⟩ := hk; simp at hd, hblk h.res h.ne (by decide), hblk h.flt (by intro e; subst e; exact absurd (blk_ty h.flt h.blk) (by decide)) (by decide), h.ne, h.ge⟩, ?_, fun k hk => ?_⟩
  · have hr : w'.ownsRow B 79 3 gv' (gl ++ [(g, iv)]).length (globCells (gl ++ [(g, iv)])) := by
      rw [globCells_snoc, List.length_append]
      exact hap.own
    exact own_at hr fun k e => hfar k (by rintro rfl; exact ownBlk_ne hr hbx (by decide) e)
  · rcases List.mem_append.1 hg' with hg' | hg'
    · exact hrow (h.globs.inits g' hg') (by decide) (by decide)
    · rw [List.mem_singleton] at hg'
      subst hg'
      exact hrow hiv (by decide) (by decide)
  · exact (outS_grown hap.2.2.1 fun k e => .inr (.inl e)).trans (outS_set (S := fun k => k = wx) w' wx 0 gv' rfl) fun i _ e => .inl e
  · rcases hk with e | e | e | e | e
    · exact .inl (.inl e)
    · rcases hap.2.2.2 with h1 | h1
      · exact .inl (.inr (.inl (h1 ▸ e)))
      · rw [h1] at e; cases e; exact .inr hH
    · exact .inl (.inr (.inr (.inl e)))
    · exact .inl (.inr (.inr (.inr (.inl e))))
    · exact .inl (.inr (.inr (.inr (.inr e))))
/-- A piece more. -/
theorem PWh.addPc (h : PWh w B wx gi gf gv sv rv gl ds es rl) {d : PcD} {e : PcE} {sv' : Value} {H : Nat} (hap : Appended w B 61 1 sv (ds.length + 1) (ptrsP ds ++ [.pointer (some ⟨d.bx, 0, none⟩)]) H sv' w') (hH : w.heap.size ≤ H)
    (hd : PcOf w B d e) (hf : ∀ k, d.In k → ¬ InPcs ds k) (hg : ∀ g ∈ gl, ∀ k, g.2.ownBlock = some k → ¬ d.In k) {M : Nat} (hM : M ≤ w.heap.size) (hdM : ∀ k, d.In k → M ≤ k) :
    PWh w' B wx gi gf gv sv' rv gl (ds ++ [d]) (es ++ [e]) rl ∧ OutS (InPw wx gv sv rv ds) w w' ∧ ∀ k, InPw wx gv sv' rv (ds ++ [d]) k → InPw wx gv sv rv ds k ∨ M ≤ k := by
  have hst : ∀ k, k < w.heap.size → sv.ownBlock ≠ some k → w'.heap[k]? = w.heap[k]? := fun k hlt h2 => hap.2.2.1.block k hlt (fun e => h2 e.symm)
  have hrow : ∀ {b s n : Nat} {t : TypeId} {v : Value} {xs : List Value}, w.ownsRow b t s v n xs → t ≠ 61 → w'.ownsRow b t s v n xs := fun hv h2 => own_at hv fun k e => hst k (own_lt hv e) (own_two hv h.ptrs h2 k e)
  have hblk : ∀ {g : Nat} {t : TypeId} {cs : Array Value}, Blk w g t cs → t ≠ 61 → Blk w' g t cs := fun hb h2 => hap.blk h.ptrs hb (fun e => h2 e.symm)
  have hd' : PcOf w' B d e := hd.stay fun k hin => hst k (hd.lt hin) fun e => hd.row h.ptrs (by decide) (by decide) (by decide) (by decide) e hin
  refine ⟨⟨hblk h.blk (by decide), ⟨hrow h.globs.row (by decide), fun g' hg' => hrow (h.globs.inits g' hg') (by decide)⟩, OwnPc.snoc hap.own, (h.pcs.stay fun k hin => hst k (h.pcs.lt hin) fun e => h.pcs.row h.ptrs (by decide) (by decide) (by decide) (by decide) e hin).snoc hd' hf, ⟨hrow h.rts.row (by decide), fun r hr => hrow (h.rts.codes r hr) (by decide)⟩, fun g hg' k h1 h2 => ?_, hblk h.res (by decide), hblk h.flt (by decide), h.ne, h.ge⟩, (outS_grown hap.2.2.1 fun k e => .inr (.inr (.inl e))), fun k hk => ?_⟩
  · obtain ⟨f, hf', hin⟩ := h2
    rcases List.mem_append.1 hf' with hf' | hf'
    · exact h.sep g hg' k h1 ⟨f, hf', hin⟩
    · rw [List.mem_singleton] at hf'
      subst hf'
      exact hg g hg' k h1 hin
  · rcases hk with e | e | e | e | ⟨f, hf', hin⟩
    · exact .inl (.inl e)
    · exact .inl (.inr (.inl e))
    · rcases hap.2.2.2 with h1 | h1
      · exact .inl (.inr (.inr (.inl (h1 ▸ e))))
      · rw [h1] at e; cases e; exact .inr (Nat.le_trans hM hH)
    · exact .inl (.inr (.inr (.inr (.inl e))))
    · rcases List.mem_append.1 hf' with hf' | hf'
      · exact .inl (.inr (.inr (.inr (.inr ⟨f, hf', hin⟩))))
      · rw [List.mem_singleton] at hf'
        subst hf'
        exact .inr (hdM k hin)
/-- A routine more. -/
theorem PWh.addRout (h : PWh w B wx gi gf gv sv rv gl ds es rl) {nm : ByteArray} {code : List Int} {cv rv' : Value} {H : Nat} (hap : Appended w B 76 2 rv (rl.length + 1) (routCells rl ++ [.string nm, cv]) H rv' w') (hcv : OwnB w B cv code) :
    PWh (w'.setCell ⟨wx, 1, none⟩ rv') B wx gi gf gv sv rv' gl ds es (rl ++ [(⟨nm, code⟩, cv)]) ∧ Below B w (w'.setCell ⟨wx, 1, none⟩ rv') := by
  have hbx := hap.blk h.rts.row h.blk (by decide)
  have hfar : ∀ k, k ≠ wx → (w'.setCell ⟨wx, 1, none⟩ rv').heap[k]? = w'.heap[k]? := fun k hk => Below.heap_setCell w' ⟨wx, 1, none⟩ rv' k hk
  have hst : ∀ k, k < w.heap.size → k ≠ wx → rv.ownBlock ≠ some k → (w'.setCell ⟨wx, 1, none⟩ rv').heap[k]? = w.heap[k]? := fun k hlt h1 h2 => (hfar k h1).trans (hap.2.2.1.block k hlt (fun e => h2 e.symm))
  have hrow : ∀ {b s n : Nat} {t : TypeId} {v : Value} {xs : List Value}, w.ownsRow b t s v n xs → t ≠ 43 → t ≠ 76 → (w'.setCell ⟨wx, 1, none⟩ rv').ownsRow b t s v n xs := fun hv h1 h2 => own_at hv fun k e => hst k (own_lt hv e) (by rintro rfl; exact ownBlk_ne hv h.blk h1 e) (own_two hv h.rts.row h2 k e)
  have hblk : ∀ {g : Nat} {t : TypeId} {cs : Array Value}, Blk w g t cs → g ≠ wx → t ≠ 76 → Blk (w'.setCell ⟨wx, 1, none⟩ rv') g t cs := fun hb h1 h2 => (hst _ hb.lt h1 (fun e => ownBlk_ne h.rts.row hb (fun e => h2 e.symm) e)).trans hb
  refine ⟨⟨hbx.set_ 1 rv', ⟨hrow h.globs.row (by decide) (by decide), fun g hg => hrow (h.globs.inits g hg) (by decide) (by decide)⟩, hrow h.ptrs (by decide) (by decide), ?_, ⟨?_, fun r hr => ?_⟩, h.sep, hblk h.res h.ne (by decide), hblk h.flt (by intro e; subst e; exact absurd (blk_ty h.flt h.blk) (by decide)) (by decide), h.ne, h.ge⟩, hap.below.setCell h.ge _⟩
  · exact h.pcs.stay fun k hin => hst k (h.pcs.lt hin) (by rintro rfl; exact h.pcs.far h.blk (by decide) (by decide) (by decide) (by decide) hin) fun e => h.pcs.row h.rts.row (by decide) (by decide) (by decide) (by decide) e hin
  · have hr : w'.ownsRow B 76 2 rv' (rl ++ [((⟨nm, code⟩ : Rout), cv)]).length (routCells (rl ++ [((⟨nm, code⟩ : Rout), cv)])) := by
      rw [routCells_snoc, List.length_append]
      exact hap.own
    exact own_at hr fun k e => hfar k (by rintro rfl; exact ownBlk_ne hr hbx (by decide) e)
  · rcases List.mem_append.1 hr with hr | hr
    · exact hrow (h.rts.codes r hr) (by decide) (by decide)
    · rw [List.mem_singleton] at hr
      subst hr
      exact hrow hcv (by decide) (by decide)
end
end Go.Proofs.YtdldochhondifaaGreatDoor
namespace Go.Proofs.YtdldochhondifaaGreatDoor
open Go Go.RowKit Go.Lib

def CallOk (x : Ins) : Prop := x.call.isSome = decide (x.m.op = 44)
theorem field_call_op {x z : Ins} {c : UInt8} {s : List UInt8} (h : fieldP true x c s = some z) : z.m.op = x.m.op ∧ z.call.isSome = (x.call.isSome || decide (c = 114)) := by
  unfold fieldP at h
  split at h
  · rename_i e; obtain ⟨n, _, rfl⟩ := Option.map_eq_some_iff.1 h; subst e; exact ⟨rfl, by simp⟩
  split at h
  · rename_i e; obtain ⟨n, _, rfl⟩ := Option.map_eq_some_iff.1 h; subst e; exact ⟨rfl, by simp⟩
  split at h
  · rename_i e; obtain ⟨n, _, rfl⟩ := Option.map_eq_some_iff.1 h; subst e; exact ⟨rfl, by simp⟩
  split at h
  · rename_i e; obtain ⟨n, _, rfl⟩ := Option.map_eq_some_iff.1 h; subst e; exact ⟨rfl, by simp⟩
  split at h
  · rename_i e
    split at h
    · cases h; exact ⟨rfl, by simp [e.1]⟩
    · cases h
  · rename_i e
    obtain ⟨n, _, rfl⟩ := Option.map_eq_some_iff.1 h
    exact ⟨rfl, by simp only [and_true] at e; simp [e]⟩
theorem fields_call_op : ∀ (cs : List UInt8) (ps : List (List UInt8)) (x z : Ins), cs.length = ps.length → fieldsP true x cs ps = some z → z.m.op = x.m.op ∧ z.call.isSome = (x.call.isSome || cs.contains 114)
  | [], [], x, z, _, h => by cases h; simp
  | [], _ :: _, _, _, hl, _ => by simp at hl
  | _ :: _, [], _, _, hl, _ => by simp at hl
  | c :: cs, p :: ps, x, z, hl, h => by
    rw [fieldsP] at h
    obtain ⟨y, hy, h2⟩ := Option.bind_eq_some_iff.1 h
    obtain ⟨a1, a2⟩ := field_call_op hy
    obtain ⟨b1, b2⟩ := fields_call_op cs ps y z (by simpa using hl) h2
    refine ⟨b1.trans a1, ?_⟩
    rw [b2, a2, List.contains_cons, Bool.or_assoc]
    congr 1
    by_cases e : c = 114
    · subst e; simp
    · have e' : (114 == c) = false := beq_false_of_ne fun h => e h.symm
      rw [e']; simp [e]
theorem ord_call (op : Int) (h1 : 1 ≤ op) (h2 : op ≤ 47) : (ordL op).contains 114 = decide (op = 44) := by
  have h : ∀ k : Fin 48, (ordL (k.val : Int)).contains 114 = decide ((k.val : Int) = 44) := by decide
  have := h ⟨op.toNat, by omega⟩
  simp only at this
  rwa [show ((op.toNat : Nat) : Int) = op by omega] at this
theorem line_call {st : PSt} {s : List UInt8} (h : ∀ x ∈ st.code, CallOk x) : ∀ x ∈ (lineP true st s).2.code, CallOk x := by
  unfold lineP
  split
  · split
    · exact h
    · split
      · exact h
      · exact h
  · split
    · exact h
    · rename_i op hop
      split
      · exact h
      · rename_i z hz
        intro x hx
        rcases List.mem_append.1 hx with hx | hx
        · exact h x hx
        · rw [List.mem_singleton] at hx
          subst hx
          unfold opP at hop
          obtain ⟨k, hk, rfl⟩ := Option.map_eq_some_iff.1 hop
          have hk1 := List.mem_of_find?_eq_some hk
          have hk2 := List.find?_some hk
          rw [List.mem_range] at hk1
          unfold fitP at hk2
          rw [Bool.and_eq_true, Bool.and_eq_true, decide_eq_true_eq, decide_eq_true_eq] at hk2
          obtain ⟨e1, e2⟩ := fields_call_op _ _ _ _ hk2.1.2 hz
          unfold CallOk
          rw [e2, e1, ord_call _ (by omega) (by omega)]
          rfl
def WCalls (x : WSt) : Prop := ∀ y ∈ x.secs, ∀ i ∈ y.st.code, CallOk i
theorem wline_calls {x : WSt} {s : List UInt8} (h : WCalls x) : WCalls (wlineP x s).2 := by
  unfold wlineP
  split
  · split
    · exact h
    · split
      · exact h
      · exact h
  · split
    · split
      · intro y hy
        rcases List.mem_append.1 hy with hy | hy
        · exact h y hy
        · rw [List.mem_singleton] at hy
          subst hy
          intro i hi
          simp at hi
      · exact h
    · unfold lastLineP
      split
      · exact h
      · rename_i y hy
        intro z hz
        rcases List.mem_append.1 hz with hz | hz
        · exact h z ((List.dropLast_sublist _).subset hz)
        · rw [List.mem_singleton] at hz
          subst hz
          exact line_call (h y (List.mem_of_getLast? hy))

structure RLink (names : List (List UInt8)) (st : PSt) (i : Nat) (ms : List Mac) : Prop where
  len : ms.length = st.code.length
  at_ : ∀ (k : Nat) (x : Ins), st.code[k]? = some x → ms[k]? = some (if k < i then linkP names st.labs x else setP st.labs x)
  met : ∀ (k : Nat) (x : Ins), k < i → st.code[k]? = some x → ∀ c, x.call = some c → ∃ p, findP names c = some p
section
variable {names : List (List UInt8)} {st : PSt} {i : Nat} {ms : List Mac}
theorem RLink.start (names : List (List UInt8)) (st : PSt) : RLink names st 0 (settled st) :=
  ⟨settled_len st, fun k x hx => by unfold settled; rw [List.getElem?_map, hx, if_neg (by omega)]; rfl, fun k x h => absurd h (Nat.not_lt_zero k)⟩
theorem RLink.skip (h : RLink names st i ms) {x : Ins} (hx : st.code[i]? = some x) (hc : x.call = none) : RLink names st (i + 1) ms := by
  refine ⟨h.len, fun k y hy => ?_, fun k y hk hy c hyc => ?_⟩
  · rw [h.at_ k y hy]
    by_cases e : k = i
    · subst e
      rw [hx] at hy
      cases hy
      rw [if_neg (by omega), if_pos (by omega)]
      unfold linkP
      rw [hc]
    · by_cases e2 : k < i
      · rw [if_pos e2, if_pos (by omega)]
      · rw [if_neg e2, if_neg (by omega)]
  · rcases Nat.lt_or_ge k i with e | e
    · exact h.met k y e hy c hyc
    · obtain rfl : k = i := by omega
      rw [hx] at hy
      cases hy
      rw [hc] at hyc
      cases hyc
theorem RLink.next (h : RLink names st i ms) {x : Ins} {c : List UInt8} {p : Nat} {m : Mac} (hx : st.code[i]? = some x) (hc : x.call = some c) (hp : findP names c = some p) (hm : ms[i]? = some m) : RLink names st (i + 1) (ms.set i { m with n := (p : Int) }) := by
  have hi := (List.getElem?_eq_some_iff.1 hm).1
  have hm2 := h.at_ i x hx
  rw [if_neg (by omega), hm] at hm2
  cases hm2
  refine ⟨by rw [List.length_set]; exact h.len, fun k y hy => ?_, fun k y hk hy c' hyc => ?_⟩
  · by_cases e : i = k
    · subst e
      rw [hx] at hy
      cases hy
      rw [List.getElem?_set_self hi, if_pos (by omega), (link_eq (labs := st.labs) hc hp).1]
    · rw [List.getElem?_set_ne e, h.at_ k y hy]
      by_cases e2 : k < i
      · rw [if_pos e2, if_pos (by omega)]
      · rw [if_neg e2, if_neg (by omega)]
  · rcases Nat.lt_or_ge k i with e | e
    · exact h.met k y e hy c' hyc
    · obtain rfl : k = i := by omega
      rw [hx] at hy
      cases hy
      rw [hc] at hyc
      cases hyc
      exact ⟨p, hp⟩
theorem RLink.done (h : RLink names st i ms) (hi : st.code.length ≤ i) : ms = linked names st ∧ ∀ j c, (j, c) ∈ callsOf st.code → ∃ p, findP names c = some p := by
  refine ⟨List.ext_getElem? fun k => ?_, fun j c hjc => ?_⟩
  · unfold linked
    rw [List.getElem?_map]
    cases hx : st.code[k]? with
    | none =>
      rw [List.getElem?_eq_none_iff] at hx
      rw [List.getElem?_eq_none (by rw [h.len]; exact hx)]
      rfl
    | some x =>
      have hk := (List.getElem?_eq_some_iff.1 hx).1
      rw [h.at_ k x hx, if_pos (by omega)]
      rfl
  · obtain ⟨x, hx, hc⟩ := calls_mem.1 hjc
    have hk := (List.getElem?_eq_some_iff.1 hx).1
    exact h.met j x (by omega) hx c hc
theorem set_op (labs : List (Int × Nat)) (x : Ins) : (setP labs x).op = x.m.op := by unfold setP; split <;> rfl
theorem RLink.op (h : RLink names st i ms) {x : Ins} (hx : st.code[i]? = some x) : ∃ m, ms[i]? = some m ∧ m.op = x.m.op := by
  refine ⟨_, h.at_ i x hx, ?_⟩
  rw [if_neg (by omega)]
  exact set_op _ _
end

def FindTo (names : List (List UInt8)) (c : List UInt8) (j : Nat) (tv : Int) : Prop :=
  j ≤ names.length ∧ tv = match (names.drop j).findIdx? fun x => x == c with
    | some p => ((j + p : Nat) : Int)
    | none => -1
theorem FindTo.start (names : List (List UInt8)) (c : List UInt8) : FindTo names c names.length (-1) := ⟨Nat.le_refl _, by rw [List.drop_length]; rfl⟩
theorem FindTo.next {names : List (List UInt8)} {c s : List UInt8} {j : Nat} {tv : Int} (h : FindTo names c (j + 1) tv) (hs : names[j]? = some s) : FindTo names c j (if s = c then (j : Int) else tv) := by
  obtain ⟨h1, h2⟩ := h
  refine ⟨by omega, ?_⟩
  rw [drop_at hs, List.findIdx?_cons]
  by_cases e : s = c
  · subst e
    simp
  · rw [if_neg e, if_neg (by simpa using e), h2]
    cases (names.drop (j + 1)).findIdx? fun x => x == c with
    | none => rfl
    | some p =>
      show ((j + 1 + p : Nat) : Int) = ((j + (p + 1) : Nat) : Int)
      rw [Nat.add_assoc, Nat.add_comm 1 p]
theorem FindTo.done {names : List (List UInt8)} {c : List UInt8} {tv : Int} (h : FindTo names c 0 tv) : tv = match findP names c with
    | some p => (p : Int)
    | none => -1 := by
  rw [h.2, List.drop_zero]
  unfold findP
  cases names.findIdx? fun x => x == c with
  | none => rfl
  | some p => simp
end Go.Proofs.YtdldochhondifaaGreatDoor
namespace Go.Proofs.YtdldochhondifaaGreatDoor
open Go.RowKit
attribute [local go_sem] Oper.semAt_some

theorem infoRtn : (Tryz.prog.info? 76).map (fun i => (i.zero, i.size, i.bytes)) = some (some (.agg #[.string ⟨#[]⟩, .slice none 0 0]), 2, 40) := by kernel_rfl
/-- How far the region has come: the call, the routine, its slice, the row, the store. -/
inductive RtSt (w0 : World) (base wx n : Nat) (rv : Value) (nm : ByteArray) (xs : List Value) (code : List Int) : Option Value → Option Value → Option Value → Option Value → Option Value → World → Prop
  | start {w : World} : Below w0.heap.size w0 w → RtSt w0 base wx n rv nm xs code none none none none none w
  | called {w : World} {A : Option Addr} {k c : Nat} : Below w0.heap.size w0 w → OwnB w base (.slice A k c) code → RtSt w0 base wx n rv nm xs code (some (.slice A k c)) none none none none w
  | built {w : World} {A : Option Addr} {k c : Nat} : Below w0.heap.size w0 w → OwnB w base (.slice A k c) code → RtSt w0 base wx n rv nm xs code (some (.slice A k c)) (some (.agg #[.string nm, .slice A k c])) none none none w
  | made {w : World} {A : Option Addr} {k c : Nat} : Below w0.heap.size w0 w → OwnB w base (.slice A k c) code → RtSt w0 base wx n rv nm xs code (some (.slice A k c)) (some (.agg #[.string nm, .slice A k c])) (some (.slice (some ⟨w.heap.size, 0, none⟩) 1 1)) none none (w.alloc (.cells #[.string nm, .slice A k c] 76))
  | grown {w w' : World} {A : Option Addr} {k c : Nat} {B : Option Addr} {c' : Nat} : Below w0.heap.size w0 w → OwnB w base (.slice A k c) code → Appended w base 76 2 rv (n + 1) (xs ++ [.string nm, .slice A k c]) (w.heap.size + 1) (.slice B (n + 1) c') w' → RtSt w0 base wx n rv nm xs code (some (.slice A k c)) (some (.agg #[.string nm, .slice A k c])) (some (.slice (some ⟨w.heap.size, 0, none⟩) 1 1)) (some (.slice B (n + 1) c')) none w'
  | stored {w w' : World} {A : Option Addr} {k c : Nat} {B : Option Addr} {c' : Nat} {u : Value} : Below w0.heap.size w0 w → OwnB w base (.slice A k c) code → Appended w base 76 2 rv (n + 1) (xs ++ [.string nm, .slice A k c]) (w.heap.size + 1) (.slice B (n + 1) c') w' → RtSt w0 base wx n rv nm xs code (some (.slice A k c)) (some (.agg #[.string nm, .slice A k c])) (some (.slice (some ⟨w.heap.size, 0, none⟩) 1 1)) (some (.slice B (n + 1) c')) (some u) (w'.setCell ⟨wx, 1, none⟩ (.slice B (n + 1) c'))
section
variable {w0 w w' : World} {base wx n : Nat} {rv : Value} {nm : ByteArray} {xs : List Value} {code : List Int} {s10 s11 s12 s13 s15 : Option Value}
theorem RtSt.low (h : RtSt w0 base wx n rv nm xs code s10 s11 s12 none s15 w) : Below w0.heap.size w0 w := by
  cases h with
  | start h => exact h
  | called h => exact h
  | built h => exact h
  | made h => exact h.alloc h.size _
theorem RtSt.call {A : Option Addr} {k c : Nat} (h : RtSt w0 base wx n rv nm xs code none s11 s12 s13 s15 w) (hb : Below w.heap.size w w') (ho : OwnB w' base (.slice A k c) code) : RtSt w0 base wx n rv nm xs code (some (.slice A k c)) s11 s12 s13 s15 w' := by
  cases h with
  | start h => exact .called (h.trans (hb.mono h.size)) ho
theorem RtSt.build {u : Value} (h : RtSt w0 base wx n rv nm xs code (some u) none s12 s13 s15 w) : ∃ A k c, u = .slice A k c ∧ RtSt w0 base wx n rv nm xs code (some u) (some (.agg #[.string nm, .slice A k c])) s12 s13 s15 w := by
  cases h with
  | called h ho => exact ⟨_, _, _, rfl, .built h ho⟩
theorem RtSt.make {a : Value} (h : RtSt w0 base wx n rv nm xs code s10 (some a) none s13 s15 w) : ∃ A k c, a = .agg #[.string nm, .slice A k c] ∧ RtSt w0 base wx n rv nm xs code s10 (some a) (some (.slice (some ⟨w.heap.size, 0, none⟩) 1 1)) s13 s15 (w.alloc (.cells #[.string nm, .slice A k c] 76)) := by
  cases h with
  | built h ho => exact ⟨_, _, _, rfl, .made h ho⟩
theorem RtSt.grow {a : Value} (h : RtSt w0 base wx n rv nm xs code s10 s11 (some a) none s15 w) (hrow : w0.ownsRow base 76 2 rv n xs) (hn : n ≤ 1000000) (hbase : base ≤ w0.heap.size) :
    ∃ (g : Nat) (B : Option Addr) (c' : Nat) (w' : World), a = .slice (some ⟨g, 0, none⟩) 1 1 ∧ (Builtin.append_ #[41, 41] 41 #[rv, .slice (some ⟨g, 0, none⟩) 1 1]).run Tryz.prog w = .ok (.slice B (n + 1) c') w' ∧ RtSt w0 base wx n rv nm xs code s10 s11 (some a) (some (.slice B (n + 1) c')) s15 w' := by
  cases h with
  | @made w A k c hb ho =>
    obtain ⟨B, c', w', hr, hap⟩ := run_app_one (P := Tryz.prog) (w := w) 41 41 76 _ 2 40 Tryz.underlying41 infoRtn rfl (by decide) (by decide) base rv n xs (own_at hrow fun k e => hb.block k (own_lt hrow e)) [.string nm, .slice A k c] rfl (fun u hu => by simp at hu; rcases hu with rfl | rfl <;> rfl) (by omega) (Nat.le_trans hbase hb.size)
    exact ⟨_, B, c', w', rfl, hr, .grown hb ho hap⟩
theorem RtSt.store {a u : Value} {gv : Value} (h : RtSt w0 base wx n rv nm xs code s10 s11 s12 (some a) none w) (hrow : w0.ownsRow base 76 2 rv n xs) (hblk : Blk w0 wx 43 #[gv, rv]) :
    (∃ B c', a = .slice B (n + 1) c') ∧ w.cell? ⟨wx, 1, none⟩ = some rv ∧ w.frozen? ⟨wx, 1, none⟩ = false ∧ RtSt w0 base wx n rv nm xs code s10 s11 s12 (some a) (some u) (w.setCell ⟨wx, 1, none⟩ a) := by
  cases h with
  | @grown w1 w A k c B c' hb ho hap =>
    have hb2 := hap.blk (own_at hrow fun k e => hb.block k (own_lt hrow e)) (hblk.below hb hblk.lt) (by decide)
    exact ⟨⟨_, _, rfl⟩, hb2.cell 1, hb2.frozen 1, .stored hb ho hap⟩
theorem RtSt.done {u : Value} (h : RtSt w0 base wx n rv nm xs code s10 s11 s12 s13 (some u) w) : ∃ (w1 wa : World) (A : Option Addr) (k c : Nat) (B : Option Addr) (c' : Nat), Below w0.heap.size w0 w1 ∧ OwnB w1 base (.slice A k c) code ∧ Appended w1 base 76 2 rv (n + 1) (xs ++ [.string nm, .slice A k c]) (w1.heap.size + 1) (.slice B (n + 1) c') wa ∧ w = wa.setCell ⟨wx, 1, none⟩ (.slice B (n + 1) c') := by
  cases h with
  | stored hb ho hap => exact ⟨_, _, _, _, _, _, _, hb, ho, hap, rfl⟩
end
def RtRun (pv : Nat → Option Value) (w0 : World) (base wx n : Nat) (rv : Value) (nm : ByteArray) (xs : List Value) (code : List Int) (σ : Nat → Option Value) (w : World) : Prop :=
  (∀ j v, pv j = some v → ∀ u, σ j = some u → u = v) ∧ RtSt w0 base wx n rv nm xs code (σ 10) (σ 11) (σ 12) (σ 13) (σ 15) w
section
variable {pv : Nat → Option Value} {w0 w w' : World} {base wx n : Nat} {rv : Value} {nm : ByteArray} {xs : List Value} {code : List Int} {σ : Nat → Option Value}
theorem RtRun.start (h : Below w0.heap.size w0 w) : RtRun pv w0 base wx n rv nm xs code (fun _ => none) w := ⟨fun j v _ u hu => (by cases hu), RtSt.start h⟩
theorem RtRun.val (h : RtRun pv w0 base wx n rv nm xs code σ w) {k : Nat} {u v : Value} (hu : σ k = some u) (hp : pv k = some v) : u = v := h.1 k v hp u hu
theorem RtRun.keep {k : Nat} {v : Value} (h : RtRun pv w0 base wx n rv nm xs code σ w) (hk : pv k = none ∨ pv k = some v) : ∀ j v', pv j = some v' → ∀ u, upd σ k v j = some u → u = v' := by
  intro j v' hj u hu
  by_cases e : j = k
  · subst e
    rw [upd_same] at hu
    cases hu
    rcases hk with hk | hk
    · rw [hk] at hj; cases hj
    · rw [hk] at hj; cases hj; rfl
  · rw [upd_ne e] at hu
    exact h.1 j v' hj u hu
theorem RtRun.say (h : RtRun pv w0 base wx n rv nm xs code σ w) {k : Nat} {v : Value} (hk : pv k = some v) (hd : k ≠ 10 ∧ k ≠ 11 ∧ k ≠ 12 ∧ k ≠ 13 ∧ k ≠ 15) : RtRun pv w0 base wx n rv nm xs code (upd σ k v) w := by
  refine ⟨h.keep (.inr hk), ?_⟩
  rw [upd_ne (fun e => hd.1 e.symm), upd_ne (fun e => hd.2.1 e.symm), upd_ne (fun e => hd.2.2.1 e.symm), upd_ne (fun e => hd.2.2.2.1 e.symm), upd_ne (fun e => hd.2.2.2.2 e.symm)]
  exact h.2
theorem RtRun.low (h : RtRun pv w0 base wx n rv nm xs code σ w) (h13 : σ 13 = none) : Below w0.heap.size w0 w := by
  have h2 := h.2
  rw [h13] at h2
  exact h2.low
theorem RtRun.call (h : RtRun pv w0 base wx n rv nm xs code σ w) (hd : pv 10 = none) (h10 : σ 10 = none) {u : Value} (hb : Below w.heap.size w w') (hu : OwnB w' base u code) : RtRun pv w0 base wx n rv nm xs code (upd σ 10 u) w' := by
  refine ⟨h.keep (.inl hd), ?_⟩
  have h2 := h.2
  rw [h10] at h2
  obtain ⟨A, c, rfl⟩ := row_form hu
  rw [upd_same, upd_ne (by decide), upd_ne (by decide), upd_ne (by decide), upd_ne (by decide)]
  exact h2.call hb hu
theorem RtRun.build (h : RtRun pv w0 base wx n rv nm xs code σ w) (hd : pv 11 = none) (h11 : σ 11 = none) {u : Value} (h10 : σ 10 = some u) : ∃ A k c, u = .slice A k c ∧ RtRun pv w0 base wx n rv nm xs code (upd σ 11 (.agg #[.string nm, .slice A k c])) w := by
  have h2 := h.2
  rw [h10, h11] at h2
  obtain ⟨A, k, c, e, h3⟩ := h2.build
  refine ⟨A, k, c, e, h.keep (.inl hd), ?_⟩
  rw [upd_same, upd_ne (by decide), upd_ne (by decide), upd_ne (by decide), upd_ne (by decide), h10]
  exact h3
theorem RtRun.make (h : RtRun pv w0 base wx n rv nm xs code σ w) (hd : pv 12 = none) (h12 : σ 12 = none) {u : Value} (h11 : σ 11 = some u) : ∃ A k c, u = .agg #[.string nm, .slice A k c] ∧ RtRun pv w0 base wx n rv nm xs code (upd σ 12 (.slice (some ⟨w.heap.size, 0, none⟩) 1 1)) (w.alloc (.cells #[.string nm, .slice A k c] 76)) := by
  have h2 := h.2
  rw [h11, h12] at h2
  obtain ⟨A, k, c, e, h3⟩ := h2.make
  refine ⟨A, k, c, e, h.keep (.inl hd), ?_⟩
  rw [upd_same, upd_ne (by decide), upd_ne (by decide), upd_ne (by decide), upd_ne (by decide), h11]
  exact h3
theorem RtRun.grow (h : RtRun pv w0 base wx n rv nm xs code σ w) (hd : pv 13 = none) (h13 : σ 13 = none) {u : Value} (h12 : σ 12 = some u) (hrow : w0.ownsRow base 76 2 rv n xs) (hn : n ≤ 1000000) (hbase : base ≤ w0.heap.size) :
    ∃ (g : Nat) (B : Option Addr) (c' : Nat) (w' : World), u = .slice (some ⟨g, 0, none⟩) 1 1 ∧ (Builtin.append_ #[41, 41] 41 #[rv, .slice (some ⟨g, 0, none⟩) 1 1]).run Tryz.prog w = .ok (.slice B (n + 1) c') w' ∧ RtRun pv w0 base wx n rv nm xs code (upd σ 13 (.slice B (n + 1) c')) w' := by
  have h2 := h.2
  rw [h12, h13] at h2
  obtain ⟨g, B, c', w', e, hr, h3⟩ := h2.grow hrow hn hbase
  refine ⟨g, B, c', w', e, hr, h.keep (.inl hd), ?_⟩
  rw [upd_same, upd_ne (by decide), upd_ne (by decide), upd_ne (by decide), upd_ne (by decide), h12]
  exact h3
theorem RtRun.store (h : RtRun pv w0 base wx n rv nm xs code σ w) (hd : pv 15 = none) (h15 : σ 15 = none) {a gv : Value} (u : Value) (h13 : σ 13 = some a) (hrow : w0.ownsRow base 76 2 rv n xs) (hblk : Blk w0 wx 43 #[gv, rv]) :
    (∃ B c', a = .slice B (n + 1) c') ∧ w.cell? ⟨wx, 1, none⟩ = some rv ∧ w.frozen? ⟨wx, 1, none⟩ = false ∧ RtRun pv w0 base wx n rv nm xs code (upd σ 15 u) (w.setCell ⟨wx, 1, none⟩ a) := by
  have h2 := h.2
  rw [h13, h15] at h2
  obtain ⟨e, c1, c2, h3⟩ := h2.store (u := u) hrow hblk
  refine ⟨e, c1, c2, h.keep (.inl hd), ?_⟩
  rw [upd_same, upd_ne (by decide), upd_ne (by decide), upd_ne (by decide), upd_ne (by decide), h13]
  exact h3
theorem RtRun.done (h : RtRun pv w0 base wx n rv nm xs code σ w) {u : Value} (h15 : σ 15 = some u) : ∃ (w1 wa : World) (A : Option Addr) (k c : Nat) (B : Option Addr) (c' : Nat), Below w0.heap.size w0 w1 ∧ OwnB w1 base (.slice A k c) code ∧ Appended w1 base 76 2 rv (n + 1) (xs ++ [.string nm, .slice A k c]) (w1.heap.size + 1) (.slice B (n + 1) c') wa ∧ w = wa.setCell ⟨wx, 1, none⟩ (.slice B (n + 1) c') := by
  have h2 := h.2
  rw [h15] at h2
  exact h2.done
end
/-- A piece has changed where it lies. -/
theorem PWh.put0 {w w' : World} {B wx gi gf : Nat} {gv sv rv : Value} {gl : List (Glob × Value)} {ds : List PcD} {es : List PcE} {rl : List (Rout × Value)} (h : PWh w B wx gi gf gv sv rv gl ds es rl) {i : Nat} {d : PcD} {e' : PcE} (hi : ds[i]? = some d) (ho : OutS d.In w w') (hs : PcOf w' B d e') :
    PWh w' B wx gi gf gv sv rv gl ds (es.set i e') rl := by
  have h2 := (h.put hi ho hs rfl fun k hk => .inl hk).1
  have hset : ds.set i d = ds := by
    refine List.ext_getElem? fun j => ?_
    by_cases hj : i = j
    · subst hj
      rw [List.getElem?_set_self (List.getElem?_eq_some_iff.1 hi).1, hi]
    · rw [List.getElem?_set_ne hj]
  rwa [hset] at h2
theorem namesP_set {es : List PcE} {i : Nat} {e e' : PcE} (hi : es[i]? = some e) (hn : e'.name = e.name) : (es.set i e').map (fun e => e.name) = es.map fun e => e.name := by
  rw [List.map_set, hn]
  refine List.ext_getElem? fun j => ?_
  by_cases hj : i = j
  · subst hj
    rw [List.getElem?_set_self (by rw [List.length_map]; exact (List.getElem?_eq_some_iff.1 hi).1), List.getElem?_map, hi]
    rfl
  · rw [List.getElem?_set_ne hj]
/-- The pieces from the j-th on are as they were read. -/
def EsP (x : WSt) (names : List (List UInt8)) (j : Nat) (es : List PcE) : Prop := es.map (fun e => e.name) = names ∧ ∀ k, j ≤ k → es[k]? = (x.secs.map entP)[k]?
end Go.Proofs.YtdldochhondifaaGreatDoor
