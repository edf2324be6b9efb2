/-
  Texts of the claim AsmWholeSays (ArF): what each proves stands at its theorems.
  Conditions: as the theorems say.
-/
import Derived.Conc.MuLone
import Derived.Lib.IndexLaws
import Derived.Sort.LoopGhostIn
import Derived.Sort.CutIn
import Derived.TacticsInMore
import Derived.LoopNIn
import Derived.LoopIn
import Derived.Stop.RegionWithIn
import Derived.Test.YtdldochhondifaaGreatDoorVArS
import Derived.Test.YtdldochhondifaaGreatDoorVInkR
import Derived.Test.YtdldochhondifaaGreatDoorVArE
namespace Go.Proofs.YtdldochhondifaaGreatDoor
open Go.RowKit
attribute [local go_sem] Oper.semAt_some

/-- What the program's text and the machine's start have laid. -/
structure Std (w : World) : Prop where
  errs : Errs w
  pow : Pow w
  wrd : Wrd w
  tab : Tab w
  len : ∃ m : Int, w.cell? ⟨2, 0, none⟩ = some (.int .i64 m)
  u8 : Lib.Utf8Tabs 6 7 w
  big : 10 ≤ w.heap.size
theorem Std.below {W w : World} {B : Nat} (h : Std W) (hb : Below B W w) (hB : 10 ≤ B) (hz : B ≤ w.heap.size) : Std w :=
  ⟨h.errs.below hb (by omega) hz, h.pow.below hb (Nat.lt_of_lt_of_le (by decide) hB), h.wrd.below hb (Nat.lt_of_lt_of_le (by decide) hB) hz, h.tab.below hb (Nat.lt_of_lt_of_le (by decide) hB) hz,
    by obtain ⟨m, e⟩ := h.len; exact ⟨m, (bcell hb (Nat.lt_of_lt_of_le (by decide) hB)).trans e⟩,
    ⟨fun c hc => (bcell hb (Nat.lt_of_lt_of_le (by decide) hB)).trans (h.u8.1 c hc), fun i hi => ⟨(bcell hb (Nat.lt_of_lt_of_le (by decide) hB)).trans (h.u8.2 i hi).1, (bcell hb (Nat.lt_of_lt_of_le (by decide) hB)).trans (h.u8.2 i hi).2⟩⟩, by omega⟩
theorem Std.own {W w : World} (h : Std W) (hb : Below W.heap.size W w) : Std w := h.below hb h.big hb.size

theorem indexByte_one (c : UInt8) : ∀ (l : List UInt8), (Lib.indexByte l c = -1 ∧ ∀ b ∈ l, b ≠ c) ∨ ∃ a r, l = a ++ c :: r ∧ (∀ b ∈ a, b ≠ c) ∧ Lib.indexByte l c = a.length
  | [] => .inl ⟨rfl, by simp⟩
  | b :: l => by
    by_cases h : b = c
    · subst h
      exact .inr ⟨[], l, rfl, by simp, by simp [Lib.indexByte]⟩
    · have hb : (b == c) = false := beq_false_of_ne h
      rcases indexByte_one c l with ⟨h1, h2⟩ | ⟨a, r, h1, h2, h3⟩
      · refine .inl ⟨by unfold Lib.indexByte; rw [hb, h1]; rfl, fun x hx => ?_⟩
        rcases List.mem_cons.1 hx with rfl | hx
        · exact h
        · exact h2 x hx
      · refine .inr ⟨b :: a, r, by rw [h1]; rfl, fun x hx => ?_, ?_⟩
        · rcases List.mem_cons.1 hx with rfl | hx
          · exact h
          · exact h2 x hx
        · unfold Lib.indexByte
          rw [hb, h3]
          have : ((a.length : Int) == -1) = false := by rw [beq_eq_false_iff_ne]; omega
          simp [this]
/-- The bytes ahead of k, from k on. -/
theorem cut_front (a r : List UInt8) (k : Nat) (hk : k = a.length) : (mkS (a ++ r)).extract 0 k = mkS a := by
  rw [cut_mk, List.drop_zero, hk, List.take_left' rfl]
theorem cut_back (a r : List UInt8) (k n : Nat) (hk : k = a.length) (hn : n = (a ++ r).length) : (mkS (a ++ r)).extract k n = mkS r := by
  rw [cut_mk, hn, List.take_length, hk, List.drop_left' rfl]
/-- A piece of a text. -/
abbrev Pc : Type := { x : List UInt8 // x.length ≤ 1000000 }
def pcs (l : List Pc) : List (List UInt8) := l.map Subtype.val
theorem pcs_len (l : List Pc) : (pcs l).length = l.length := List.length_map _
theorem pcs_snoc (l : List Pc) (x : Pc) : pcs (l ++ [x]) = pcs l ++ [x.1] := by unfold pcs; rw [List.map_append]; rfl
set_option maxRecDepth 100000 in
set_option maxHeartbeats 2000000 in
/-- The closure of SplitSeq at a separator of one byte: the pieces, one after the other; it rewrites its own box alone. -/
theorem split1_in (b1 b2 b3 go : Nat) (c : UInt8) (t : List UInt8) (ht : t.length ≤ 1000000) (w : World) (h1 : Blk w b1 9 #[.string ⟨#[c]⟩]) (h2 : Blk w b2 9 #[.string (mkS t)]) (h3 : Blk w b3 3 #[.int .i64 0]) (n12 : b1 ≠ b2) (g1 : b1 ≠ go) (g2 : b2 ≠ go) (g3 : b3 ≠ go) :
    SeqW Tryz.prog 138 #[.pointer (some ⟨b1, 0, none⟩), .pointer (some ⟨b2, 0, none⟩), .pointer (some ⟨b3, 0, none⟩)] (fun s : Pc => Value.string (mkS s.1)) (BelowBut go w.heap.size) b2 (fun xs => pcs xs = splitC c [] t) (splitC c [] t).length w := by
  intro l J W hW hAb hSet hY h0
  have HY := Lib.hid hY
  have HS := Lib.hid hSet
  have H0 := Lib.hid h0
  have H1 := Lib.hid (h1.below hW h1.lt)
  have H2 := Lib.hid (h2.below hW h2.lt)
  have H3 := Lib.hid (h3.below hW h3.lt)
  have HT := Lib.hid ht
  have HG := Lib.hid (And.intro (And.intro h1.lt g1) (And.intro (And.intro h2.lt g2) (And.intro h3.lt g3)))
  have HN := Lib.hid n12
  have n23 : b3 ≠ b2 := fun e => by
    subst e
    unfold Blk at h2 h3
    rw [h2] at h3
    cases h3
  have HN2 := Lib.hid n23
  clear hY hAb hSet h0 h1 h2 h3 hW ht g1 g2 g3 n12 n23
  have x1 := H1.out.cell 0
  refine callsIn_of_wp Tryz.func138 rfl trivial ?_ rfl
  simp only [Tryz.ntmps138, List.size_toArray, List.length_cons, List.length_nil, Nat.reduceAdd, Nat.reduceSub, Array.replicate_succ, Array.replicate_zero, List.push_toArray, List.append_toArray, List.nil_append, List.cons_append]
  gi_wp2_with fail
  gi_loopg [] (splitC c [] t).length (fun gk wr => ∃ (r : List UInt8) (pre : List Pc), Hid (Blk wr b1 9 #[.string ⟨#[c]⟩]) ∧ Hid (Blk wr b2 9 #[.string (mkS r)]) ∧ Hid (Blk wr b3 3 #[.int .i64 0]) ∧ Hid (pcs pre ++ splitC c [] r = splitC c [] t) ∧ r.length ≤ 1000000 ∧ (splitC c [] r).length ≤ gk ∧ Hid (J pre wr))
  case atStart => exact ⟨t, [], H1, H2, H3, Lib.hid rfl, HT.out, Nat.le_refl _, H0⟩
  case round =>
    obtain ⟨r, pre, K1, K2, K3, HP, hr, hg, HJ⟩ := hrel
    clear H1 H2 H3 H0 x1
    obtain ⟨rl, hrl⟩ : ∃ rl, r.length = rl := ⟨_, rfl⟩
    have hz : (mkS r).size = rl := by rw [mkS_size, hrl]
    have Hrl := Lib.hid hrl
    have Hg := Lib.hid hg
    rw [hrl] at hr
    clear hrl hg
    have y1 := K1.out.cell 0
    have y2 := K2.out.cell 0
    have y3 := K3.out.cell 0
    have hI := Tryz.strings_Index_one (mkS r) c wr
    rw [mkS_list] at hI
    rcases indexByte_one c r with ⟨h1, h2⟩ | ⟨a, q, h1, h2, h3⟩
    · have HSp : Hid (splitC c [] r = [r]) := Lib.hid (by rw [splitC_none c r [] h2]; rfl)
      rw [h1] at hI
      have HI := Lib.hid hI
      obtain ⟨rp, hrp⟩ : ∃ rp : Pc, rp.1 = r := ⟨⟨r, by rw [Hrl.out]; exact hr⟩, rfl⟩
      have HY1 := HY.out pre rp wr HJ.out (by
        have := congrArg List.length HP.out
        rw [HSp.out, List.length_append, pcs_len] at this
        simp at this
        omega)
      rw [hrp] at HY1
      have Hrp := Lib.hid hrp
      clear hrp
      obtain ⟨fn, tmps, assign, body, hy, hR⟩ := HY1
      clear hI h1 h2
      gi_wp2_with fail
      refine ⟨trivial, (callsIn_wide.2 HI.out).mono ?_⟩
      rintro e W2 ⟨rfl, rfl⟩
      gi_wp2_with fail
      refine hR.mono ?_
      rintro e W3 ⟨rfl, hJ3, hk3⟩
      have HE : Hid (∃ xs, pcs xs = splitC c [] t ∧ J xs W3) := Lib.hid ⟨pre ++ [rp], by rw [pcs_snoc, Hrp.out, ← HP.out, HSp.out], hJ3⟩
      clear hJ3 hk3 hy hR
      gi_wp2_with fail
      go_end0
      exact ⟨⟨_, rfl⟩, HE.out⟩
    · have HSp : Hid (splitC c [] r = a :: splitC c [] q) := Lib.hid (by rw [h1, splitC_hit c a [] q h2, List.nil_append])
      obtain ⟨al, hal⟩ : ∃ al, a.length = al := ⟨_, rfl⟩
      have hrq : al + 1 + q.length = rl := by rw [← Hrl.out, h1, List.length_append, List.length_cons]; omega
      have HF : Hid ((mkS r).extract 0 al = mkS a) := Lib.hid (by rw [h1]; exact cut_front a (c :: q) al hal.symm)
      have HR2 : Hid ((mkS r).extract (al + 1) rl = mkS q) := Lib.hid (by
        rw [h1, show a ++ c :: q = (a ++ [c]) ++ q by simp]
        exact cut_back (a ++ [c]) q (al + 1) rl (by simp [hal]) (by rw [← hrq]; simp [hal]; omega))
      rw [h3, hal] at hI
      have HI := Lib.hid hI
      have hlen : pre.length < (splitC c [] t).length := by
        have := congrArg List.length HP.out
        rw [HSp.out, List.length_append, pcs_len] at this
        simp at this
        omega
      obtain ⟨ap, hap⟩ : ∃ ap : Pc, ap.1 = a := ⟨⟨a, by omega⟩, rfl⟩
      have HY1 := HY.out pre ap wr HJ.out hlen
      rw [hap] at HY1
      have Hap := Lib.hid hap
      clear hap
      obtain ⟨fn, tmps, assign, body, hy, hR⟩ := HY1
      have Hal := Lib.hid hal
      have hg2 : (splitC c [] q).length < gk := by have := Hg.out; rw [HSp.out, List.length_cons] at this; omega
      have ha0 : al ≤ rl := by omega
      have ha1 : al + 1 ≤ rl := by omega
      have hql : q.length ≤ 1000000 := by omega
      clear hI h1 h2 h3 hal hlen hrq
      gi_wp2_with fail
      refine ⟨trivial, (callsIn_wide.2 HI.out).mono ?_⟩
      rintro e W2 ⟨rfl, rfl⟩
      have hex := HF.out
      gi_wp2_with fail
      refine hR.mono ?_
      rintro e W3 ⟨rfl, hJ3, hk3⟩
      have L1 := Lib.hid (hk3.blk K1.out HG.out.1.1 HG.out.1.2)
      have L2 := Lib.hid (hk3.blk K2.out HG.out.2.1.1 HG.out.2.1.2)
      have L3 := Lib.hid (hk3.blk K3.out HG.out.2.2.1 HG.out.2.2.2)
      have HJ3 := Lib.hid hJ3
      clear hJ3 hk3 hy hR hex y1 y2 y3
      have y1 := L1.out.cell 0
      have y2 := L2.out.cell 0
      have y3 := L3.out.cell 0
      have f2 := L2.out.frozen 0
      have hex := HR2.out
      gi_wp2_with fail
      go_roundg (gk - 1)
      case measure => omega
      case rel => exact ⟨q, pre ++ [ap], Lib.hid (L1.out.far HN.out _), Lib.hid (L2.out.set_ 0 _), Lib.hid (L3.out.far HN2.out _), Lib.hid (by rw [pcs_snoc, Hap.out, List.append_assoc, List.singleton_append, ← HSp.out, HP.out]), hql, by omega, Lib.hid (HS.out _ _ _ _ HJ3.out)⟩
end Go.Proofs.YtdldochhondifaaGreatDoor
namespace Go.Proofs.YtdldochhondifaaGreatDoor
open Go.RowKit
attribute [local go_sem] Oper.semAt_some

set_option maxRecDepth 100000 in
theorem blank_any (r : Nat) (w : World) : Calls Tryz.prog 55 #[.int .i32 (r : Int)] w fun e w' => e = .returned (.bool (blR r)) ∧ w = w' := by
  by_cases h1 : r = 32
  · subst h1
    go_enter Tryz.func55, Tryz.ntmps55
    go_wp2_with fail
    go_ret
    exact ⟨rfl, rfl⟩
  · by_cases h2 : r = 9
    · subst h2
      go_enter Tryz.func55, Tryz.ntmps55
      go_wp2_with fail
      go_ret
      exact ⟨rfl, rfl⟩
    · have HE : Hid (blR r = false) := Lib.hid (by unfold blR; rw [beq_false_of_ne h1, beq_false_of_ne h2]; rfl)
      have q1 : ((r : Int) == 32) = false := by rw [beq_eq_false_iff_ne]; omega
      have q2 : ((r : Int) == 9) = false := by rw [beq_eq_false_iff_ne]; omega
      clear h1 h2
      go_enter Tryz.func55, Tryz.ntmps55
      go_wp2_with fail
      go_ret
      exact ⟨by rw [HE.out]; rfl, rfl⟩
theorem blank_pred (w : World) : PredAt Tryz.prog 55 #[] encR blR w := fun W x _ => (blank_any x W).mono fun _ _ ⟨he, hw⟩ => ⟨he, 0, hw.symm⟩
theorem blank_enter : ∀ args w, (callFunc 55 args).run Tryz.prog w = .ok (.enter 55 args) w := fun a W => MuLone.run_callFunc_enter Tryz.func55 (by kernel_rfl) rfl a W
theorem mkS_back (s : ByteArray) : mkS s.data.toList = s := by
  apply ByteArray.ext
  simp [mkS]
theorem trimB (l : List UInt8) : Lib.trimF blR (mkS l) = mkS (trimS l) := by rw [← mkS_back (Lib.trimF blR (mkS l)), trim_bl, mkS_list]
theorem Trim_any (l : List UInt8) (hl : l.length ≤ 9223372036854775807) (w : World) (hs : Std w) :
    Calls Tryz.prog 54 #[.string (mkS l), .func (.func 55) #[] #[]] w fun e w' => e = .returned (.string (mkS (trimS l))) ∧ Below w.heap.size w w' := by
  refine (Tryz.strings_TrimFunc 55 #[] blank_enter blR (mkS l) w (by rw [mkS_size]; exact hl) hs.u8 (blank_pred w)).mono ?_
  rintro e w' ⟨rfl, hb⟩
  exact ⟨by rw [trimB], hb⟩
theorem below_drewn (w : World) (n B : Nat) : Below B w (w.drewN n) := ⟨rfl, rfl, rfl, Nat.le_refl _, fun _ _ => rfl⟩
theorem Cut_any (l : List UInt8) (hl : l.length < 4294967281) (w : World) (hs : Std w) :
    Calls Tryz.prog 53 #[.string (mkS l), .string ⟨#[59]⟩] w fun e w' => (∃ y z, e = .returned (.tuple #[.string (mkS (cutS l)), .string y, .bool z])) ∧ Below w.heap.size w w' := by
  obtain ⟨m, hm⟩ := hs.len
  refine (Tryz.strings_Cut (mkS l) ⟨#[59]⟩ m w (by rw [mkS_size]; exact hl) hm).mono ?_
  rintro e w' ⟨rfl, n, rfl⟩
  rw [mkS_list, show (⟨#[59]⟩ : ByteArray).data.toList = [59] from rfl, cut_remark]
  exact ⟨⟨_, _, rfl⟩, below_drewn _ _ _⟩
set_option maxRecDepth 100000 in
/-- The iterator over a text's lines. -/
theorem SplitSeq_any (t : List UInt8) (c : UInt8) (w : World) :
    Calls Tryz.prog 52 #[.string (mkS t), .string ⟨#[c]⟩] w fun e w' => ∃ b1 b2 b3, e = .returned (.func (.func 138) #[] #[.pointer (some ⟨b1, 0, none⟩), .pointer (some ⟨b2, 0, none⟩), .pointer (some ⟨b3, 0, none⟩)]) ∧
      Blk w' b1 9 #[.string ⟨#[c]⟩] ∧ Blk w' b2 9 #[.string (mkS t)] ∧ Blk w' b3 3 #[.int .i64 0] ∧ b1 ≠ b2 ∧ w.heap.size ≤ b1 ∧ w.heap.size ≤ b2 ∧ w.heap.size ≤ b3 ∧ Below w.heap.size w w' := by
  have HA : Hid (Calls Tryz.prog 104 #[.string (mkS t), .string ⟨#[c]⟩, .int .i64 0] w fun e w' => ∃ b1 b2 b3, e = .returned (.func (.func 138) #[] #[.pointer (some ⟨b1, 0, none⟩), .pointer (some ⟨b2, 0, none⟩), .pointer (some ⟨b3, 0, none⟩)]) ∧
      Blk w' b1 9 #[.string ⟨#[c]⟩] ∧ Blk w' b2 9 #[.string (mkS t)] ∧ Blk w' b3 3 #[.int .i64 0] ∧ b1 ≠ b2 ∧ w.heap.size ≤ b1 ∧ w.heap.size ≤ b2 ∧ w.heap.size ≤ b3 ∧ Below w.heap.size w w') := by
    have HR : Hid (∀ W, W = ((w.alloc (.cells #[.string (mkS t)] 9)).alloc (.cells #[.string ⟨#[c]⟩] 9)).alloc (.cells #[.int .i64 0] 3) → Blk W (w.heap.size + 1) 9 #[.string ⟨#[c]⟩] ∧ Blk W w.heap.size 9 #[.string (mkS t)] ∧ Blk W (w.heap.size + 1 + 1) 3 #[.int .i64 0] ∧ Below w.heap.size w W) := Lib.hid (by
      rintro W rfl
      refine ⟨?_, ((Blk.new _ _ _).alloc _).alloc _, ?_, (((Below.refl _ _).alloc (Nat.le_refl _) _).alloc (by simp) _).alloc (by simp; omega) _⟩
      · have := (Blk.new (w.alloc (.cells #[.string (mkS t)] 9)) 9 #[.string ⟨#[c]⟩]).alloc (.cells #[.int .i64 0] 3)
        rwa [World.size_alloc] at this
      · have := Blk.new ((w.alloc (.cells #[.string (mkS t)] 9)).alloc (.cells #[.string ⟨#[c]⟩] 9)) 3 #[.int .i64 0]
        rwa [World.size_alloc, World.size_alloc] at this)
    refine Lib.hid ?_
    go_enter Tryz.func104, Tryz.ntmps104
    go_wp2_with fail
    refine bodyPost_ret (v := .func (.func 138) #[] #[.pointer (some ⟨w.heap.size + 1, 0, none⟩), .pointer (some ⟨w.heap.size, 0, none⟩), .pointer (some ⟨w.heap.size + 1 + 1, 0, none⟩)]) (by simp [results, Tryz.results104, go_sem]) rfl ?_
    obtain ⟨h1, h2, h3, h4⟩ := HR.out _ rfl
    exact ⟨_, _, _, rfl, h1, h2, h3, by omega, by omega, by omega, by omega, h4⟩
  go_enter Tryz.func52, Tryz.ntmps52
  go_wp2_with fail
  refine HA.out.mono ?_
  rintro e w' ⟨b1, b2, b3, rfl, h⟩
  have H := Lib.hid h
  clear h
  go_wp2_with fail
  refine bodyPost_ret (v := .func (.func 138) #[] #[.pointer (some ⟨b1, 0, none⟩), .pointer (some ⟨b2, 0, none⟩), .pointer (some ⟨b3, 0, none⟩)]) (by simp [results, Tryz.results52, go_sem]) rfl ?_
  exact ⟨b1, b2, b3, rfl, H.out⟩
end Go.Proofs.YtdldochhondifaaGreatDoor
