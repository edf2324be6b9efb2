/-
  Texts of the claim AsmWholeFixed (RuE RuF RuL RuJ RdQ RuK RuN RuS): what each proves stands at its theorems.
  Conditions: as the theorems say.
-/
import Derived.Deep.RegionHeld3
import Derived.Deep.RegionLaw
import Derived.Deep.DrawnRows
import Derived.StillTailTactics
import Derived.Deep.QuietTactic
import Derived.BigQuiet
import Derived.Test.YtdldochhondifaaGreatDoorWRuD
import Derived.Test.YtdldochhondifaaGreatDoorWMcZ
import Derived.Test.YtdldochhondifaaGreatDoorWLey
import Derived.Test.YtdldochhondifaaGreatDoorWRdP
import Derived.Test.YtdldochhondifaaGreatDoorWKtC
namespace Go.Proofs.YtdldochhondifaaGreatDoor
open Go.RowKit
attribute [local go_sem ↓] Go.wp_at_zero Go.wp_at_succ

theorem infoCall : (Tryz.prog.info? 190).map (fun i => (i.zero, i.size, i.bytes)) = some (some (.pointer none), 1, 8) := by kernel_rfl
theorem sp_nil {dst a b n : Int} {cs : List Fr} {s : Mch} (h : s.input = []) : speaksS ⟨46, dst, a, b, n⟩ cs s = s.set dst (-1) := by
  unfold speaksS readM
  rw [h]
  rfl
theorem sp_cons {dst a b n x : Int} {l : List Int} {cs : List Fr} {s : Mch} (h : s.input = x :: l) : speaksS ⟨46, dst, a, b, n⟩ cs s = { s with regs := s.regs.set dst.toNat x, input := l } := by
  unfold speaksS readM
  rw [h]
  rfl
theorem sp_more {dst a b n : Int} {cs : List Fr} {s : Mch} (h : s.out.length ≠ 200) : speaksS ⟨47, dst, a, b, n⟩ cs s = { s with out := s.out ++ [s.reg a] } := by
  unfold speaksS printS
  rw [if_neg h]
  rfl
theorem sp_much {dst a b n : Int} {cs : List Fr} {s : Mch} (h : s.out.length = 200) : speaksS ⟨47, dst, a, b, n⟩ cs s = s.ends 5 := by
  unfold speaksS printS
  rw [if_pos h]
  rfl
theorem IntsAt.tail {w : World} {B b off c : Nat} {x : Int} {l : List Int} (hc : l.length + 1 ≤ c) (h63 : c ≤ 9223372036854775807) (hb : b < B) (hcell : ∀ (k : Nat) (y : Int), (x :: l)[k]? = some y → w.cell? ⟨b, off + k, none⟩ = some (.int .i64 y)) :
    IntsAt w B (.slice (some ⟨b, off + 1, none⟩) l.length (c - 1)) l := by
  refine ⟨_, c - 1, rfl, by omega, by omega, fun hl => ?_⟩
  refine ⟨b, off + 1, rfl, hb, fun k y hk => ?_⟩
  have := hcell (k + 1) y (by simpa using hk)
  rw [← this]
  congr 2
  omega
theorem IntsAt.tail1 {w : World} {B b off : Nat} {l : List Int} (hc : l.length + 1 ≤ 1) : IntsAt w B (.slice (some ⟨b, off, none⟩) l.length 0) l :=
  ⟨_, 0, rfl, by omega, by omega, fun hl => by omega⟩
theorem MRest.reading {w : World} {base : Nat} {codes : List (List Mac)} {mem : List Int} {calls : List Fr} {input input' out : List Int} {cv mv lv iv iv' ov : Value} {ps : List Nat} (h : MRest w base codes mem calls input out cv mv lv iv ov ps) (hi : IntsAt w base iv' input') : MRest w base codes mem calls input' out cv mv lv iv' ov ps :=
  ⟨h.hcodes, h.hmem, h.hcalls, hi, h.hout, h.apart, h.frs⟩
set_option maxRecDepth 100000 in
set_option maxHeartbeats 1000000 in
theorem speaks_44 (dst a b n : Int) (w : World) (base g p : Nat) (codes : List (List Mac)) (s : Mch) (c : Fr) (cs : List Fr) (h : MachTop w base g codes s c cs p) (hr : s.regs.length = 16) (n1 : 0 ≤ n) (h30s : s.calls.length ≤ 30) :
    Calls Tryz.prog 164 #[.pointer (some ⟨g, 0, none⟩), macV ⟨44, dst, a, b, n⟩] w (MachPost w base g codes (speaksS ⟨44, dst, a, b, n⟩ cs s) (.tuple #[])) := by
  obtain ⟨nn, rfl⟩ := Int.eq_ofNat_of_zero_le n1
  have hA : Below w.heap.size w (w.alloc (.cells #[.int .i64 44, .int .i64 dst, .int .i64 a, .int .i64 b, .int .i64 (nn : Int)] 39)) := (Below.refl _ _).alloc (Nat.le_refl _) _
  have hk := Blk.new w 39 #[.int .i64 44, .int .i64 dst, .int .i64 a, .int .i64 b, .int .i64 (nn : Int)]
  have HM := Lib.hid (h.below hA)
  have HZ := Lib.hid h.size
  have HA := Lib.hid hA
  have HK := Lib.hid hk
  have Hr := Lib.hid hr
  clear hA hk h hr
  unfold macV
  simp only
  go_enter Tryz.func164, Tryz.ntmps164
  go_upto_region 1 with fail
  generalize w.alloc (.cells #[.int .i64 44, .int .i64 dst, .int .i64 a, .int .i64 b, .int .i64 (nn : Int)] 39) = w1 at *
  generalize w.heap.size = gk at *
  have k0 := HK.out.cell 0
  have k1 := HK.out.cell 1
  have k2 := HK.out.cell 2
  have k3 := HK.out.cell 3
  have k4 := HK.out.cell 4
  obtain ⟨hg, hs, cv, mv, lv, iv, ov, ps, h⟩ := HM.out
  obtain ⟨bl, cl, hlv, hcl0, hcl⟩ := row_some h.2.hcalls (by simp)
  subst hlv
  have hpl : (p :: ps).length = s.calls.length := by rw [hs]; exact h.2.frs.len
  obtain ⟨L, hL⟩ : ∃ L, (p :: ps).length = L := ⟨_, rfl⟩
  rw [hL] at h hpl hcl0
  have HL := Lib.hid hL
  have c18 := (h.1.cell 18).trans (mach_tail Hr.out 1)
  simp only [List.getElem?_cons_succ, List.getElem?_cons_zero] at c18
  have f18 := h.1.frozen 18
  have H := Lib.hid h
  have Hs := Lib.hid hs
  have Hpl := Lib.hid hpl
  clear h hs hL hpl
  by_cases h30 : L = 30
  · have hb30 : ((L : Int) == 30) = true := by simp [h30]
    have H30 := Lib.hid h30
    clear h30
    go_wp2_with fail
    refine (ends_any 4 _ base g codes s HM.out.is Hr.out).mono ?_
    rintro e w' ⟨rfl, hm, hb⟩
    have HM2 := Lib.hid hm
    have HB2 := Lib.hid hb
    clear hm hb
    go_wp2_with fail
    go_end0
    refine ⟨rfl, ?_, (HA.out.mono HZ.out).trans HB2.out⟩
    have e : speaksS ⟨44, dst, a, b, (nn : Int)⟩ cs s = s.ends 4 := by unfold speaksS callS; simp only; rw [if_pos trivial, if_pos (by rw [← Hpl.out]; exact H30.out)]
    rw [e]
    exact HM2.out
  · have hb30 : ((L : Int) == 30) = false := by simp; omega
    have H30 := Lib.hid h30
    clear h30
    go_wp2_with fail
    have HC : Hid (w1.ownsRow base 190 1 (.slice (some ⟨bl, 0, none⟩) L cl) L ((p :: ps).reverse.map ptrV)) := Lib.hid (by have := H.out.2.hcalls; rw [HL.out] at this; exact this)
    have Hcs : Hid (L ≤ 30) := Lib.hid (by rw [Hpl.out]; exact h30s)
    have c18a : ∀ o, (w1.alloc o).cell? ⟨g, 18, none⟩ = some (.slice (some ⟨bl, 0, none⟩) L cl) := fun o => (World.cell?_alloc_lt w1 o ⟨g, 18, none⟩ H.out.1.lt).trans c18
    have c18b : ∀ o o', ((w1.alloc o).alloc o').cell? ⟨g, 18, none⟩ = some (.slice (some ⟨bl, 0, none⟩) L cl) := fun o o' => (World.cell?_alloc_lt _ o' ⟨g, 18, none⟩ (H.out.1.alloc o).lt).trans (c18a o)
    go_region_law ((refine step_app_src (by rfl) (.tmp 20) (.tmp 25) 194 190 (by rfl) (.pointer none) 1 8 Tryz.underlying194 infoCall rfl (by decide) (by decide) base (.slice (some ⟨bl, 0, none⟩) L cl) L ((p :: ps).reverse.map ptrV) (by rfl) (World.ownsRow.drew ((HC.out.alloc _).alloc _)) (some ⟨w1.heap.size + 1, 0, none⟩) 1 1 [ptrV w1.heap.size] (by rfl) (by rfl) (fun _ => ⟨_, rfl, cells_new (w1.alloc _) [ptrV w1.heap.size] 190 (w1.heap.size + 1) (by simp)⟩) (fun u hu => by simp at hu; subst hu; rfl) (by have := Hcs.out; omega) (by have := H.out.1.lt; simp; omega) (w1.heap.size + 2) (by simp) ?_; intro B4 c4 w4 HA4; rw [newFr] at HA4; have HP4 := Lib.hid (MRest.push H.out hg _ HL.out.symm HA4.out); have e18 := (HP4.out.1.cell 18).trans (mach_tail Hr.out 1); simp only [List.getElem?_cons_succ, List.getElem?_cons_zero] at e18; have ef18 := HP4.out.1.frozen 18; have e4 := (HA4.out.blk (World.ownsRow.drew ((HC.out.alloc _).alloc _)) (show Blk (World.drew _) gk _ _ from (HK.out.alloc _).alloc _) (by decide)).cell 4))
    all_goals
      go_wp2_with fail
      go_end0
      refine ⟨rfl, ?_, ((HA.out.mono HZ.out).trans HP4.out.2.2).setCell hg _⟩
      have e : speaksS ⟨44, dst, a, b, (nn : Int)⟩ cs s = { s with calls := ⟨nn, 0, List.replicate 120 0⟩ :: s.calls } := by unfold speaksS callS; simp only; rw [if_pos trivial, if_neg (by rw [← Hpl.out]; exact H30.out)]; rfl
      rw [e]
      exact mk_is hg (mset ⟨HP4.out.1, HP4.out.2.1⟩ hg (mach_set_calls _ Hr.out)) rfl (by rw [← Hs.out]) rfl rfl
set_option maxRecDepth 100000 in
set_option maxHeartbeats 1000000 in
theorem speaks_45 (dst a b n : Int) (w : World) (base g p : Nat) (codes : List (List Mac)) (s : Mch) (c : Fr) (cs : List Fr) (h : MachTop w base g codes s c cs p) (hr : s.regs.length = 16) :
    Calls Tryz.prog 164 #[.pointer (some ⟨g, 0, none⟩), macV ⟨45, dst, a, b, n⟩] w (MachPost w base g codes (speaksS ⟨45, dst, a, b, n⟩ cs s) (.tuple #[])) := by
  have hA : Below w.heap.size w (w.alloc (.cells #[.int .i64 45, .int .i64 dst, .int .i64 a, .int .i64 b, .int .i64 n] 39)) := (Below.refl _ _).alloc (Nat.le_refl _) _
  have hk := Blk.new w 39 #[.int .i64 45, .int .i64 dst, .int .i64 a, .int .i64 b, .int .i64 n]
  have HM := Lib.hid (h.below hA)
  have HZ := Lib.hid h.size
  have HA := Lib.hid hA
  have HK := Lib.hid hk
  have Hr := Lib.hid hr
  clear hA hk h hr
  unfold macV
  simp only
  go_enter Tryz.func164, Tryz.ntmps164
  go_upto_region 1 with fail
  generalize w.alloc (.cells #[.int .i64 45, .int .i64 dst, .int .i64 a, .int .i64 b, .int .i64 n] 39) = w1 at *
  generalize w.heap.size = gk at *
  have k0 := HK.out.cell 0
  have k1 := HK.out.cell 1
  have k2 := HK.out.cell 2
  have k3 := HK.out.cell 3
  have k4 := HK.out.cell 4
  obtain ⟨hg, hs, cv, mv, lv, iv, ov, ps, h⟩ := HM.out
  obtain ⟨bl, cl, hlv, hcl0, hcl⟩ := row_some h.2.hcalls (by simp)
  subst hlv
  have hpl : ps.length = cs.length := h.2.frs.2.2.2.len
  have h' : Blk w1 g 197 (machCells cv mv (.slice (some ⟨bl, 0, none⟩) (ps.length + 1) cl) iv ov s).toArray ∧ MRest w1 base codes s.mem (c :: cs) s.input s.out cv mv (.slice (some ⟨bl, 0, none⟩) (ps.length + 1) cl) iv ov (p :: ps) := h
  have hl2 : MRest w1 base codes s.mem cs s.input s.out cv mv (.slice (some ⟨bl, 0, none⟩) ps.length cl) iv ov ps := h'.2.pop
  have hcl0' : ps.length + 1 ≤ cl := hcl0
  obtain ⟨L, hL⟩ : ∃ L, ps.length = L := ⟨_, rfl⟩
  rw [hL] at h' hpl hcl0' hl2
  have c18 := (h'.1.cell 18).trans (mach_tail Hr.out 1)
  simp only [List.getElem?_cons_succ, List.getElem?_cons_zero] at c18
  have f18 := h'.1.frozen 18
  have c21 := (h'.1.cell 21).trans (mach_tail Hr.out 4)
  simp only [List.getElem?_cons_succ, List.getElem?_cons_zero] at c21
  have f21 := h'.1.frozen 21
  have cr0 := (h'.1.cell (1 + 0)).trans (mach_reg Hr.out (by omega))
  simp only [Nat.add_zero] at cr0
  have H := Lib.hid h'
  have HL := Lib.hid hl2
  have Hs := Lib.hid hs
  have Hpl := Lib.hid hpl
  clear h hs hL hpl h' hl2 hcl0
  have H1 : Hid (Blk (w1.setCell ⟨g, 18, none⟩ (.slice (some ⟨bl, 0, none⟩) L cl)).drew g 197 (machCells cv mv (.slice (some ⟨bl, 0, none⟩) L cl) iv ov s).toArray ∧ MRest (w1.setCell ⟨g, 18, none⟩ (.slice (some ⟨bl, 0, none⟩) L cl)).drew base codes s.mem cs s.input s.out cv mv (.slice (some ⟨bl, 0, none⟩) L cl) iv ov ps) :=
    Lib.hid (pair_below hg (mset ⟨H.out.1, HL.out⟩ hg (mach_set_calls _ Hr.out)) (below_drew1 (Below.refl _ _)))
  obtain ⟨x, hx⟩ : ∃ x, s.regs.getD 0 0 = x := ⟨_, rfl⟩
  have HX := Lib.hid hx
  rw [hx] at cr0
  clear hx
  by_cases h0 : L = 0
  · subst h0
    go_wp2_with fail
    go_region
    all_goals
      go_wp2_with fail
      refine (ends_any 0 _ base g codes { s with calls := cs, value := x } ?_ Hr.out).mono ?_
      · exact mk_is hg (mset H1.out hg (mach_set_value x Hr.out)) rfl rfl rfl rfl
      rintro e w' ⟨rfl, hm, hb⟩
      have HM2 := Lib.hid hm
      have HB2 := Lib.hid hb
      clear hm hb
      go_wp2_with fail
      go_end0
      refine ⟨rfl, ?_, (below_drew1 (((HA.out.mono HZ.out).setCell hg _).setCell hg _)).trans HB2.out⟩
      have e : speaksS ⟨45, dst, a, b, n⟩ cs s = Mch.ends { s with calls := cs, value := x } 0 := by unfold speaksS retS; simp only; rw [if_neg (by omega), if_pos trivial, if_pos (by rw [← Hpl.out])]; rw [show s.reg 0 = x from HX.out]; rfl
      rw [e]
      exact HM2.out
  · have hb0 : ((L : Int) == 0) = false := by simp; omega
    have H0 := Lib.hid h0
    clear h0
    go_wp2_with fail
    go_region
    all_goals
      go_wp2_with fail
      go_end0
      refine ⟨rfl, ?_, below_drew1 ((HA.out.mono HZ.out).setCell hg _)⟩
      have e : speaksS ⟨45, dst, a, b, n⟩ cs s = { s with calls := cs } := by unfold speaksS retS; simp only; rw [if_neg (by omega), if_pos trivial, if_neg (by rw [← Hpl.out]; exact H0.out)]
      rw [e]
      exact mk_is hg H1.out rfl rfl rfl rfl
set_option maxRecDepth 100000 in
set_option maxHeartbeats 1000000 in
theorem speaks_46 (dst a b n : Int) (w : World) (base g p : Nat) (codes : List (List Mac)) (s : Mch) (c : Fr) (cs : List Fr) (h : MachTop w base g codes s c cs p) (hr : s.regs.length = 16) (d1 : 0 ≤ dst) (d2 : dst < 16) :
    Calls Tryz.prog 164 #[.pointer (some ⟨g, 0, none⟩), macV ⟨46, dst, a, b, n⟩] w (MachPost w base g codes (speaksS ⟨46, dst, a, b, n⟩ cs s) (.tuple #[])) := by
  obtain ⟨dn, rfl⟩ := Int.eq_ofNat_of_zero_le d1
  have hdn : dn < 16 := by omega
  have hA : Below w.heap.size w (w.alloc (.cells #[.int .i64 46, .int .i64 (dn : Int), .int .i64 a, .int .i64 b, .int .i64 n] 39)) := (Below.refl _ _).alloc (Nat.le_refl _) _
  have hk := Blk.new w 39 #[.int .i64 46, .int .i64 (dn : Int), .int .i64 a, .int .i64 b, .int .i64 n]
  have HM := Lib.hid (h.below hA)
  have HZ := Lib.hid h.size
  have HA := Lib.hid hA
  have HK := Lib.hid hk
  have Hr := Lib.hid hr
  clear hA hk h hr
  unfold macV
  simp only
  go_enter Tryz.func164, Tryz.ntmps164
  go_upto_region 1 with fail
  generalize w.alloc (.cells #[.int .i64 46, .int .i64 (dn : Int), .int .i64 a, .int .i64 b, .int .i64 n] 39) = w1 at *
  generalize w.heap.size = gk at *
  have k0 := HK.out.cell 0
  have k1 := HK.out.cell 1
  have k2 := HK.out.cell 2
  have k3 := HK.out.cell 3
  have k4 := HK.out.cell 4
  obtain ⟨hg, hs, cv, mv, lv, iv, ov, ps, h⟩ := HM.out
  have cd := (h.1.cell (1 + dn)).trans (mach_reg Hr.out hdn)
  have fd := h.1.frozen (1 + dn)
  have c19 := (h.1.cell 19).trans (mach_tail Hr.out 2)
  simp only [List.getElem?_cons_succ, List.getElem?_cons_zero] at c19
  have f19 := h.1.frozen 19
  have hin := h.2.hinput
  have H := Lib.hid h
  have Hs := Lib.hid hs
  clear h hs
  obtain ⟨A, ci, rfl, hlc, h63, hcell⟩ := hin
  have H1 : Hid (Blk (w1.setCell ⟨g, 1 + dn, none⟩ (.int .i64 (-1))) g 197 (machCells cv mv lv (.slice A s.input.length ci) ov { s with regs := s.regs.set dn (-1) }).toArray ∧ MRest (w1.setCell ⟨g, 1 + dn, none⟩ (.int .i64 (-1))) base codes s.mem (c :: cs) s.input s.out cv mv lv (.slice A s.input.length ci) ov (p :: ps)) :=
    Lib.hid (mset H.out hg (mach_set_reg dn _ Hr.out hdn))
  have Hcell := Lib.hid hcell
  clear hcell
  obtain ⟨il, hil⟩ : ∃ il, s.input = il := ⟨_, rfl⟩
  have Hil := Lib.hid hil
  rw [hil] at hlc c19 H H1 Hcell
  clear hil
  cases il with
  | nil =>
    simp only [List.length_nil] at c19 hlc
    go_wp2_with fail
    go_region
    all_goals
      go_wp2_with fail
      go_end0
      refine ⟨rfl, ?_, below_drew1 ((HA.out.mono HZ.out).setCell hg _)⟩
      rw [sp_nil Hil.out]
      refine MachIs.drew ?_
      exact mk_is hg H1.out rfl Hs.out Hil.out rfl
  | cons x l =>
    obtain ⟨bi, oi, rfl, hbi, hci⟩ := Hcell.out (by simp)
    have cx : w1.cell? ⟨bi, oi, none⟩ = some (.int .i64 x) := hci 0 x rfl
    simp only [List.length_cons] at c19 hlc
    have Hci := Lib.hid hci
    clear hci
    go_wp2_with fail
    go_region
    have hB2 : Below base w1 (w1.setCell ⟨g, 1 + dn, none⟩ (.int .i64 (-1))).drew := below_drew1 ((Below.refl base w1).setCell hg _)
    have H2 : Hid (Blk (w1.setCell ⟨g, 1 + dn, none⟩ (.int .i64 (-1))).drew g 197 (machCells cv mv lv (.slice (some ⟨bi, oi, none⟩) (l.length + 1) ci) ov { s with regs := s.regs.set dn (-1) }).toArray ∧ MRest (w1.setCell ⟨g, 1 + dn, none⟩ (.int .i64 (-1))).drew base codes s.mem (c :: cs) (x :: l) s.out cv mv lv (.slice (some ⟨bi, oi, none⟩) (l.length + 1) ci) ov (p :: ps)) :=
      Lib.hid (pair_below hg H1.out (below_drew1 (Below.refl _ _)))
    have HK2 : Hid (Blk (w1.setCell ⟨g, 1 + dn, none⟩ (.int .i64 (-1))).drew gk 39 #[.int .i64 46, .int .i64 (dn : Int), .int .i64 a, .int .i64 b, .int .i64 n]) := Lib.hid (HK.out.far (HK.out.types H.out.1 (by decide)) _)
    have HB2 := Lib.hid hB2
    have Hr2 : Hid ((Mch.regs { s with regs := s.regs.set dn (-1) }).length = 16) := Lib.hid (by show (s.regs.set dn (-1)).length = 16; rw [List.length_set]; exact Hr.out)
    clear hB2
    generalize (w1.setCell ⟨g, 1 + dn, none⟩ (.int .i64 (-1))).drew = w2 at *
    have e1 := HK2.out.cell 1
    have ed := (H2.out.1.cell (1 + dn)).trans (mach_reg Hr2.out hdn)
    have efd := H2.out.1.frozen (1 + dn)
    have e19 := (H2.out.1.cell 19).trans (mach_tail Hr2.out 2)
    simp only [List.getElem?_cons_succ, List.getElem?_cons_zero] at e19
    have ef19 := H2.out.1.frozen 19
    have ex := (bcell HB2.out hbi).trans cx
    have HIn : Hid (IntsAt w2 base (.slice (some ⟨bi, oi, none⟩) (l.length + 1) ci) (x :: l)) := Lib.hid H2.out.2.hinput
    clear k0 k1 k2 k3 k4 cd fd c19 f19 cx
    go_wp2_with fail
    go_region
    all_goals go_wp2_with fail
    all_goals
      go_end0
      have h2 := mset H2.out hg (mach_set_reg dn x Hr2.out hdn)
      simp only [List.set_set] at h2
      have hr3 : (s.regs.set dn x).length = 16 := by rw [List.length_set]; exact Hr.out
      refine ⟨rfl, ?_, below_drew1 ((((HA.out.mono HZ.out).trans HB2.out).setCell hg _).setCell hg _)⟩
      rw [sp_cons Hil.out]
      refine MachIs.drew ?_
      refine mk_is hg ⟨(mset h2 hg (mach_set_input _ hr3)).1, (h2.2.setg h2.1 hg _).reading (IntsAt.below ?_ (((Below.refl base w2).setCell hg _).setCell hg _) (Nat.le_refl _))⟩ rfl Hs.out rfl rfl
      first
        | exact IntsAt.tail1 (by omega)
        | exact IntsAt.tail hlc h63 hbi fun k y hk => (bcell HB2.out hbi).trans (Hci.out k y hk)
set_option maxRecDepth 100000 in
set_option maxHeartbeats 1000000 in
theorem speaks_47 (dst a b n : Int) (w : World) (base g p : Nat) (codes : List (List Mac)) (s : Mch) (c : Fr) (cs : List Fr) (h : MachTop w base g codes s c cs p) (hr : s.regs.length = 16) (a1 : 0 ≤ a) (a2 : a < 16) (h200 : s.out.length ≤ 200) :
    Calls Tryz.prog 164 #[.pointer (some ⟨g, 0, none⟩), macV ⟨47, dst, a, b, n⟩] w (MachPost w base g codes (speaksS ⟨47, dst, a, b, n⟩ cs s) (.tuple #[])) := by
  obtain ⟨an, rfl⟩ := Int.eq_ofNat_of_zero_le a1
  have han : an < 16 := by omega
  have hA : Below w.heap.size w (w.alloc (.cells #[.int .i64 47, .int .i64 dst, .int .i64 (an : Int), .int .i64 b, .int .i64 n] 39)) := (Below.refl _ _).alloc (Nat.le_refl _) _
  have hk := Blk.new w 39 #[.int .i64 47, .int .i64 dst, .int .i64 (an : Int), .int .i64 b, .int .i64 n]
  have HM := Lib.hid (h.below hA)
  have HZ := Lib.hid h.size
  have HA := Lib.hid hA
  have HK := Lib.hid hk
  have Hr := Lib.hid hr
  clear hA hk h hr
  unfold macV
  simp only
  go_enter Tryz.func164, Tryz.ntmps164
  go_upto_region 1 with fail
  generalize w.alloc (.cells #[.int .i64 47, .int .i64 dst, .int .i64 (an : Int), .int .i64 b, .int .i64 n] 39) = w1 at *
  generalize w.heap.size = gk at *
  have k0 := HK.out.cell 0
  have k1 := HK.out.cell 1
  have k2 := HK.out.cell 2
  have k3 := HK.out.cell 3
  have k4 := HK.out.cell 4
  obtain ⟨hg, hs, cv, mv, lv, iv, ov, ps, h⟩ := HM.out
  have ca := (h.1.cell (1 + an)).trans (mach_reg Hr.out han)
  obtain ⟨Ao, co, hov⟩ := row_form h.2.hout
  subst hov
  obtain ⟨L, hL⟩ : ∃ L, s.out.length = L := ⟨_, rfl⟩
  rw [hL] at h h200
  have HL := Lib.hid hL
  have c22 := (h.1.cell 22).trans (mach_tail Hr.out 5)
  simp only [List.getElem?_cons_succ, List.getElem?_cons_zero] at c22
  have f22 := h.1.frozen 22
  have H := Lib.hid h
  have Hs := Lib.hid hs
  have HC : Hid (w1.ownsRow base 3 1 (.slice Ao L co) L (intV s.out)) := Lib.hid (by have := h.2.hout; rw [hL] at this; exact this)
  clear h hs hL
  obtain ⟨x, hx⟩ : ∃ x, s.regs.getD an 0 = x := ⟨_, rfl⟩
  have HX := Lib.hid hx
  rw [hx] at ca
  clear hx
  by_cases h2 : L = 200
  · have hb : ((L : Int) == 200) = true := by simp [h2]
    have H2 := Lib.hid h2
    clear h2
    go_wp2_with fail
    refine (ends_any 5 _ base g codes s HM.out.is Hr.out).mono ?_
    rintro e w' ⟨rfl, hm, hb⟩
    have HM2 := Lib.hid hm
    have HB2 := Lib.hid hb
    clear hm hb
    go_wp2_with fail
    go_end0
    refine ⟨rfl, ?_, (HA.out.mono HZ.out).trans HB2.out⟩
    rw [sp_much (by rw [HL.out]; exact H2.out)]
    exact HM2.out
  · have hb : ((L : Int) == 200) = false := by simp; omega
    have H2 := Lib.hid h2
    clear h2
    have c22a : ∀ o, (w1.alloc o).cell? ⟨g, 22, none⟩ = some (.slice Ao L co) := fun o => (World.cell?_alloc_lt w1 o ⟨g, 22, none⟩ H.out.1.lt).trans c22
    go_wp2_with fail
    go_region_law ((refine step_app_src (by rfl) (.tmp 112) (.tmp 120) 29 3 (by rfl) (.int .i64 0) 1 8 Tryz.underlying29 infoInt rfl (by decide) (by decide) base (.slice Ao L co) L (intV s.out) (by rfl) (World.ownsRow.drew (HC.out.alloc _)) (some ⟨w1.heap.size, 0, none⟩) 1 1 [.int .i64 x] (by rfl) (by rfl) (fun _ => ⟨_, rfl, cells_new w1 [.int .i64 x] 3 w1.heap.size rfl⟩) (fun u hu => by simp at hu; subst hu; rfl) (by omega) (by have := H.out.1.lt; simp; omega) (w1.heap.size + 1) (by simp) ?_; intro B4 c4 w4 HA4; have HP4 := Lib.hid (MRest.print H.out hg x HL.out.symm HA4.out); have e22 := (HP4.out.1.cell 22).trans (mach_tail Hr.out 5); simp only [List.getElem?_cons_succ, List.getElem?_cons_zero] at e22; have ef22 := HP4.out.1.frozen 22))
    all_goals
      go_wp2_with fail
      go_end0
      refine ⟨rfl, ?_, ((HA.out.mono HZ.out).trans HP4.out.2.2).setCell hg _⟩
      rw [sp_more (by rw [HL.out]; exact H2.out), show s.reg (an : Int) = x from HX.out]
      exact mk_is hg (mset ⟨HP4.out.1, HP4.out.2.1⟩ hg (mach_set_out _ Hr.out)) rfl Hs.out rfl rfl
/-- speaks, whatever the Op. -/
theorem speaks_any (m : Mac) (len rts : Nat) (w : World) (base g p : Nat) (codes : List (List Mac)) (s : Mch) (c : Fr) (cs : List Fr) (h : MachTop w base g codes s c cs p) (hr : s.regs.length = 16) (hm : GoodM m len rts) (h1 : 44 ≤ m.op) (h30 : s.calls.length ≤ 30) (h200 : s.out.length ≤ 200) :
    Calls Tryz.prog 164 #[.pointer (some ⟨g, 0, none⟩), macV m] w (MachPost w base g codes (speaksS m cs s) (.tuple #[])) := by
  obtain ⟨op, dst, a, b, n⟩ := m
  obtain ⟨o1, o2, d1, d2, a1, a2, b1, b2, _, _, hn⟩ := hm
  simp only at o1 o2 d1 d2 a1 a2 b1 b2 hn h1
  obtain rfl | rfl | rfl | rfl : op = 44 ∨ op = 45 ∨ op = 46 ∨ op = 47 := by omega
  · exact speaks_44 dst a b n w base g p codes s c cs h hr (hn rfl).1 h30
  · exact speaks_45 dst a b n w base g p codes s c cs h hr
  · exact speaks_46 dst a b n w base g p codes s c cs h hr d1 d2
  · exact speaks_47 dst a b n w base g p codes s c cs h hr a1 a2 h200
end Go.Proofs.YtdldochhondifaaGreatDoor
namespace Go.Proofs.YtdldochhondifaaGreatDoor
open Go.RowKit

def StepPost (w : World) (base g : Nat) (codes : List (List Mac)) (s : Mch) (r pc : Nat) (e : Ending) (w' : World) : Prop := e = .returned (.tuple #[.int .i64 (r : Int), .int .i64 (pc : Int)]) ∧ MachIs w' base g codes s ∧ Below base w w'
set_option maxRecDepth 100000 in
set_option maxHeartbeats 4000000 in
theorem step_any (w : World) (base g : Nat) (codes : List (List Mac)) (s : Mch) (h : MachIs w base g codes s) (hc : GoodC codes) (hgs : GoodS codes s) (ho : s.over = false) (hst : s.steps ≤ 1000000) :
    Calls Tryz.prog 133 #[.pointer (some ⟨g, 0, none⟩)] w (StepPost w base g codes (stepS codes s) s.pos.1 s.pos.2) := by
  obtain ⟨hg, cv, mv, lv, iv, ov, ps, h⟩ := h
  obtain ⟨c, cs, hs⟩ : ∃ c cs, s.calls = c :: cs := by
    cases e : s.calls with
    | nil => exact absurd e (hgs.some ho)
    | cons c cs => exact ⟨c, cs, rfl⟩
  have hpos : s.pos = (c.r, c.pc) := by unfold Mch.pos; rw [hs]
  have hstep : stepS codes s = doS (macAt codes c.r c.pc) c.next cs (s.begun c cs) := by unfold stepS; rw [hs]
  obtain ⟨ms, hms, hpc, hmac, hgm, hpc1⟩ := macAt_good hc (hgs.frs c (by rw [hs]; simp))
  have hws : c.ws.length = 120 := by obtain ⟨_, _, _, h⟩ := hgs.frs c (by rw [hs]; simp); exact h
  have hr := hgs.regs
  rw [hpos, hstep]
  obtain ⟨m, hm⟩ : ∃ m, macAt codes c.r c.pc = m := ⟨_, rfl⟩
  rw [hm] at hmac hgm hpc1 ⊢
  rw [hs] at h
  obtain ⟨p, ps, rfl⟩ : ∃ p ps', ps = p :: ps' := by
    cases ps with
    | nil => exact absurd h.2.frs (by simp [FrsAt])
    | cons p ps => exact ⟨p, ps, rfl⟩
  obtain ⟨bl, cl, hlv, hcl0, hcl⟩ := row_some h.2.hcalls (by simp)
  subst hlv
  obtain ⟨L, hL⟩ : ∃ L, ps.length = L := ⟨_, rfl⟩
  have hL30 : L < 30 := by
    have h1 := h.2.frs.len
    have h2 := hgs.calls
    rw [hs] at h2
    simp only [List.length_cons] at h1 h2
    omega
  have htop := top_cell (show MRest w base codes s.mem (c :: cs) s.input s.out cv mv (.slice (some ⟨bl, 0, none⟩) (ps.length + 1) cl) iv ov (p :: ps) from h.2)
  have c18 : w.cell? ⟨g, 18, none⟩ = some (.slice (some ⟨bl, 0, none⟩) (ps.length + 1) cl) := (h.1.cell 18).trans (mach_tail hr 1)
  have hcl0' : ps.length + 1 ≤ cl := hcl0
  rw [hL] at htop c18 hcl0'
  unfold ptrV at htop
  have p0 := (h.2.top.2.cell 0).trans (fr_r c)
  have p1 := (h.2.top.2.cell 1).trans (fr_pc c)
  have hw1 : IntKind.i64.wrap (((L + 1 : Nat) : Int) - 1) = (L : Int) := by rw [IntKind.wrap_i64]; omega
  have hi0 : (0 : Int) ≤ (L : Int) := Int.natCast_nonneg L
  have hi1 : (L : Int) < ((L + 1 : Nat) : Int) := by omega
  have H := Lib.hid h
  have Hs := Lib.hid hs
  have Hr := Lib.hid hr
  have Hgm := Lib.hid hgm
  have Hpc1 := Lib.hid hpc1
  have Hws := Lib.hid hws
  have Hgs := Lib.hid hgs
  have HL := Lib.hid hL
  have Hms := Lib.hid hms
  have Hmac := Lib.hid hmac
  clear hpos hstep hms hmac hgm hpc1 hws hr hm h hL hcl0 hs hc hgs ho
  go_enter Tryz.func133, Tryz.ntmps133
  go_wp2_with fail
  go_quiet (fail)
  go_wp2_with fail
  go_quiet (fail)
  go_upto_region 3 with fail
  generalize hW : (World.drewN w _).drewN _ = W1
  have hB : Below w.heap.size w W1 := by rw [← hW]; exact below_drewN (below_drewN (Below.refl _ _) _) _
  have H1 := Lib.hid (pair_below hg H.out hB)
  have HB1 := Lib.hid hB
  have HZ : Hid (base ≤ w.heap.size) := Lib.hid (by have := H.out.1.lt; omega)
  clear hW hB htop c18 p0 p1 hw1 hi0 hi1
  have c0 := (H1.out.1.cell 0).trans mach_codes
  obtain ⟨Ac, cc, hcv, hcc, hc63, hcodes⟩ := H1.out.2.hcodes
  have hrl : c.r < codes.length := (List.getElem?_eq_some_iff.1 Hms.out).1
  obtain ⟨bc, oc, hAc, hbc, hrow⟩ := hcodes (by omega)
  subst hAc
  obtain ⟨rv, crow, Am, cm, hrv, hcm, hm63, hmacs⟩ := hrow c.r ms Hms.out
  obtain ⟨bm, om, hAm, hbm, hcell⟩ := hmacs (by omega)
  subst hAm
  subst hrv
  subst hcv
  obtain ⟨m0, m1, m2, m3, m4⟩ := hcell c.pc m Hmac.out
  have HK : Hid (Blk (W1.alloc (.cells #[.int .i64 m.op, .int .i64 m.dst, .int .i64 m.a, .int .i64 m.b, .int .i64 m.n] 39)) W1.heap.size 39 #[.int .i64 m.op, .int .i64 m.dst, .int .i64 m.a, .int .i64 m.b, .int .i64 m.n]) := Lib.hid (Blk.new _ _ _)
  clear hcodes hrow hmacs hcell
  go_upto_region 4 with fail
  have hA : Below W1.heap.size W1 (W1.alloc (.cells #[.int .i64 m.op, .int .i64 m.dst, .int .i64 m.a, .int .i64 m.b, .int .i64 m.n] 39)) := (Below.refl _ _).alloc (Nat.le_refl _) _
  have H2 := Lib.hid (pair_below hg H1.out hA)
  have HB2 := Lib.hid ((HB1.out.mono HZ.out).trans (hA.mono (by have := H1.out.1.lt; omega)))
  clear m0 m1 m2 m3 m4 crow c0 hA
  generalize W1.alloc (.cells #[.int .i64 m.op, .int .i64 m.dst, .int .i64 m.a, .int .i64 m.b, .int .i64 m.n] 39) = W2 at *
  generalize W1.heap.size = gk at *
  have p1 := (H2.out.2.top.2.cell 1).trans (fr_pc c)
  have pf1 := H2.out.2.top.2.frozen 1
  have H3 := Lib.hid (MRest.setp H2.out.2 H2.out.1 _ (fr_set_pc c (c.pc + 1)))
  have HK3 : Hid (Blk (W2.setCell ⟨p, 1, none⟩ (.int .i64 ((c.pc + 1 : Nat) : Int))) gk 39 #[.int .i64 m.op, .int .i64 m.dst, .int .i64 m.a, .int .i64 m.b, .int .i64 m.n]) := Lib.hid (HK.out.far (HK.out.types H2.out.2.top.2 (by decide)) _)
  have HB3 : Hid (Below base w (W2.setCell ⟨p, 1, none⟩ (.int .i64 ((c.pc + 1 : Nat) : Int)))) := Lib.hid (HB2.out.setCell H2.out.2.top.1 _)
  go_upto_region 5 with fail
  rw [show (c.pc : Int) + 1 = ((c.pc + 1 : Nat) : Int) by omega]
  generalize W2.setCell ⟨p, 1, none⟩ (.int .i64 ((c.pc + 1 : Nat) : Int)) = W3 at *
  have c23 : W3.cell? ⟨g, 23, none⟩ = some (.int .i64 (s.steps : Int)) := (H3.out.1.cell 23).trans (mach_tail Hr.out 6)
  have f23 := H3.out.1.frozen 23
  have H4 := Lib.hid (mset H3.out hg (mach_set_steps (s.steps + 1) Hr.out))
  have HK4 : Hid (Blk (W3.setCell ⟨g, 23, none⟩ (.int .i64 ((s.steps + 1 : Nat) : Int))) gk 39 #[.int .i64 m.op, .int .i64 m.dst, .int .i64 m.a, .int .i64 m.b, .int .i64 m.n]) := Lib.hid (HK3.out.far (HK3.out.types H3.out.1 (by decide)) _)
  have HB4 : Hid (Below base w (W3.setCell ⟨g, 23, none⟩ (.int .i64 ((s.steps + 1 : Nat) : Int)))) := Lib.hid (HB3.out.setCell hg _)
  go_upto_region 7 with fail
  rw [show (s.steps : Int) + 1 = ((s.steps + 1 : Nat) : Int) by omega]
  generalize W3.setCell ⟨g, 23, none⟩ (.int .i64 ((s.steps + 1 : Nat) : Int)) = W4 at *
  have HM : Hid (MachTop W4 base g codes (s.begun c cs) c.next cs p) := Lib.hid ⟨hg, rfl, _, _, _, _, _, _, H4.out.1, H4.out.2⟩
  obtain ⟨o1, o2, d1, d2, a1, a2, b1, b2, _, ht, _⟩ := Hgm.out
  obtain ⟨x, hx⟩ : ∃ x, s.regs.getD m.a.toNat 0 = x := ⟨_, rfl⟩
  obtain ⟨y, hy⟩ : ∃ y, s.regs.getD m.b.toNat 0 = y := ⟨_, rfl⟩
  have ca : W4.cell? ⟨g, 1 + m.a.toNat, none⟩ = some (.int .i64 x) := by rw [← hx]; exact (H4.out.1.cell (1 + m.a.toNat)).trans (mach_reg (s := { s with steps := s.steps + 1 }) (a := m.a.toNat) Hr.out (by omega))
  have cb : W4.cell? ⟨g, 1 + m.b.toNat, none⟩ = some (.int .i64 y) := by rw [← hy]; exact (H4.out.1.cell (1 + m.b.toNat)).trans (mach_reg (s := { s with steps := s.steps + 1 }) (a := m.b.toNat) Hr.out (by omega))
  have HX : Hid ((s.begun c cs).reg m.a = x) := Lib.hid hx
  have HY : Hid ((s.begun c cs).reg m.b = y) := Lib.hid hy
  have Ht := Lib.hid ht
  have k0 := HK4.out.cell 0
  have k1 := HK4.out.cell 1
  have k2 := HK4.out.cell 2
  have k3 := HK4.out.cell 3
  have k4 := HK4.out.cell 4
  clear hx hy p1 pf1 c23 f23 hbm hm63 hcm hc63 hcc ht
  by_cases hA : 5 ≤ m.op ∧ m.op ≤ 18
  · have HA := Lib.hid hA
    obtain ⟨hA1, hA2⟩ := hA
    go_wp2_with fail
    go_still_tail 19, (by kernel_rfl)
    go_wp2_with fail
    refine (reckon_any m.op m.dst x y _ base g codes (s.begun c cs) HM.out.is.drew Hr.out hA1 hA2 d1 d2).mono ?_
    rintro e w' ⟨rfl, hm, hb⟩
    have HM5 := Lib.hid hm
    have HB5 := Lib.hid hb
    clear hm hb
    go_wp2_with fail
    go_ret2
    refine ⟨rfl, ?_, (below_drew1 HB4.out).trans HB5.out⟩
    rw [show doS m c.next cs (s.begun c cs) = reckS (m.op - 3) m.dst x y (s.begun c cs) from by unfold doS; rw [if_pos HA.out, HX.out, HY.out]]
    exact HM5.out
  by_cases hB : 19 ≤ m.op ∧ m.op ≤ 32
  · have HA := Lib.hid hA
    have HB := Lib.hid hB
    obtain ⟨hB1, hB2⟩ := hB
    clear hA
    go_wp2_with fail
    go_still_tail 16, (by kernel_rfl)
    go_wp2_with fail
    refine (reckon_any (m.op - 19 + 5) m.dst x m.n _ base g codes (s.begun c cs) HM.out.is.drew Hr.out (by omega) (by omega) d1 d2).mono ?_
    rintro e w' ⟨rfl, hm, hb⟩
    have HM5 := Lib.hid hm
    have HB5 := Lib.hid hb
    clear hm hb
    go_wp2_with fail
    go_ret2
    refine ⟨rfl, ?_, (below_drew1 HB4.out).trans HB5.out⟩
    rw [show doS m c.next cs (s.begun c cs) = reckS (m.op - 19 + 5 - 3) m.dst x m.n (s.begun c cs) from by unfold doS; rw [if_neg HA.out, if_pos HB.out, HX.out, show m.op - 17 = m.op - 19 + 5 - 3 by omega]]
    exact HM5.out
  by_cases hC : 37 ≤ m.op ∧ m.op ≤ 43
  · have HA := Lib.hid hA
    have HB := Lib.hid hB
    have HC := Lib.hid hC
    obtain ⟨hn1, hn2⟩ := Ht.out hC
    obtain ⟨hC1, hC2⟩ := hC
    clear hA hB
    obtain ⟨gb, hgb⟩ : ∃ gb, goesS m.op x y = gb := ⟨_, rfl⟩
    have HGb := Lib.hid hgb
    have hcall := goes_any m.op x y W4.drew hC1 hC2
    rw [hgb] at hcall
    have HCall := Lib.hid hcall
    have q1 := (H4.out.2.top.2.cell 1).trans (fr_pc c.next)
    have qf1 := H4.out.2.top.2.frozen 1
    clear hgb hcall
    cases gb
    · go_wp2_with fail
      go_still_tail 16, (by kernel_rfl)
      go_wp2_with fail
      refine HCall.out.mono ?_
      rintro e w' ⟨rfl, rfl⟩
      go_wp2_with fail
      go_ret2
      refine ⟨rfl, ?_, below_drew1 HB4.out⟩
      rw [show doS m c.next cs (s.begun c cs) = s.begun c cs from by unfold doS; rw [if_neg HA.out, if_neg HB.out, if_pos HC.out, HX.out, HY.out, HGb.out]; rfl]
      exact HM.out.is.drew
    · go_wp2_with fail
      go_still_tail 16, (by kernel_rfl)
      go_wp2_with fail
      refine HCall.out.mono ?_
      rintro e w' ⟨rfl, rfl⟩
      go_wp2_with fail
      go_ret2
      refine ⟨rfl, ?_, ?_⟩
      · rw [show doS m c.next cs (s.begun c cs) = { s.begun c cs with calls := { c.next with pc := m.n.toNat } :: cs } from by unfold doS; rw [if_neg HA.out, if_neg HB.out, if_pos HC.out, HX.out, HY.out, HGb.out]; rfl]
        have h5 := MRest.setp H4.out.2 H4.out.1 _ (fr_set_pc c.next m.n.toNat)
        rw [Int.toNat_of_nonneg hn1] at h5
        refine MachIs.drew ?_
        exact mk_is hg h5 rfl rfl rfl rfl
      · exact below_drew1 (HB4.out.setCell H4.out.2.top.1 _)
  by_cases hD : 44 ≤ m.op
  · have HA := Lib.hid hA
    have HB := Lib.hid hB
    have HC := Lib.hid hC
    have HD := Lib.hid hD
    have h43 : 43 < m.op := by omega
    clear hA hB hC
    go_wp2_with fail
    refine (speaks_any m ms.length codes.length _ base g p codes (s.begun c cs) c.next cs HM.out Hr.out Hgm.out HD.out (by have := Hgs.out.calls; rw [Hs.out] at this; simpa [Mch.begun] using this) Hgs.out.out).mono ?_
    rintro e w' ⟨rfl, hm, hb⟩
    have HM5 := Lib.hid hm
    have HB5 := Lib.hid hb
    clear hm hb
    go_wp2_with fail
    go_ret2
    refine ⟨rfl, ?_, ( HB4.out).trans HB5.out⟩
    rw [show doS m c.next cs (s.begun c cs) = speaksS m cs (s.begun c cs) from by unfold doS; rw [if_neg HA.out, if_neg HB.out, if_neg HC.out, if_pos HD.out]]
    exact HM5.out
  · have HA := Lib.hid hA
    have HB := Lib.hid hB
    have HC := Lib.hid hC
    have HD := Lib.hid hD
    have hm37 : m.op < 37 := by omega
    have hx : m.op < 5 ∨ 32 < m.op := by omega
    clear hA hB hC hD
    rcases hx with hx | hx
    all_goals
      go_wp2_with fail
      refine (moves_any m ms.length codes.length _ base g p codes (s.begun c cs) c.next cs HM.out Hr.out Hws.out Hgm.out (by omega) hm37).mono ?_
      rintro e w' ⟨rfl, hm, hb⟩
      have HM5 := Lib.hid hm
      have HB5 := Lib.hid hb
      clear hm hb
      go_wp2_with fail
      go_ret2
      refine ⟨rfl, ?_, ( HB4.out).trans HB5.out⟩
      rw [show doS m c.next cs (s.begun c cs) = movesS m c.next cs (s.begun c cs) from by unfold doS; rw [if_neg HA.out, if_neg HB.out, if_neg HC.out, if_neg (show ¬ 44 ≤ m.op by omega)]]
      exact HM5.out
end Go.Proofs.YtdldochhondifaaGreatDoor
namespace Go.Proofs.YtdldochhondifaaGreatDoor
open Go.RowKit

theorem firstBad_zero {bad : Nat → Int} {n : Nat} (h : (firstBad bad n).1 = 0) : ∀ j, j < n → bad j = 0 := by
  intro j hj
  unfold firstBad at h
  cases hf : (List.range n).find? (fun i => bad i != 0) with
  | none =>
    rw [List.find?_eq_none] at hf
    simpa using hf j (by simpa using hj)
  | some i =>
    rw [hf] at h
    have := List.find?_some hf
    simp only at h
    simp [h] at this
theorem machF_zero {gs : List Glob} {rs : List Rout} (h : (machF gs rs).1 = 0) : (globF gs).1 = 0 ∧ 0 < rs.length ∧ rs.length ≤ 40 ∧ ∀ j, j < rs.length → rBadAt gs rs j = 0 := by
  unfold machF at h
  split at h
  · rename_i h1
    exact absurd h h1
  split at h
  · cases h
  split at h
  · cases h
  · rename_i h1 h2 h3
    exact ⟨by simpa using h1, by omega, by omega, firstBad_zero h⟩
theorem sh_word (op : Int) (h : op = 35 ∨ op = 36) : shK op = 3 := by rcases h with rfl | rfl <;> rfl
theorem sh_targ (op : Int) (h : 37 ≤ op ∧ op ≤ 43) : shK op = 2 := by
  obtain rfl | rfl | rfl | rfl | rfl | rfl | rfl : op = 37 ∨ op = 38 ∨ op = 39 ∨ op = 40 ∨ op = 41 ∨ op = 42 ∨ op = 43 := by omega
  all_goals rfl
theorem sh_call : shK 44 = 4 := rfl
theorem goodM_of {m : Mac} {len rts : Nat} (h : faultS m (len : Int) = 0) (hf : farB rts m = false) : GoodM m len rts := by
  obtain ⟨ho, ⟨r1, r2, r3⟩, z1, z2, z3, hn⟩ := (fault_zero m _).1 h
  rw [isOp_iff] at ho
  refine ⟨ho.1, ho.2, ?_, ?_, ?_, ?_, ?_, ?_, fun hw => ?_, fun ht => ?_, fun hr => ?_⟩
  · cases e : shD m.op
    · rw [z1 e]; omega
    · exact (r1 e).1
  · cases e : shD m.op
    · rw [z1 e]; omega
    · exact (r1 e).2
  · cases e : shA m.op
    · rw [z2 e]; omega
    · exact (r2 e).1
  · cases e : shA m.op
    · rw [z2 e]; omega
    · exact (r2 e).2
  · cases e : shB m.op
    · rw [z3 e]; omega
    · exact (r3 e).1
  · cases e : shB m.op
    · rw [z3 e]; omega
    · exact (r3 e).2
  · rw [sh_word _ hw] at hn
    unfold numberS at hn
    simp at hn
    omega
  · rw [sh_targ _ ht] at hn
    unfold numberS at hn
    simp at hn
    omega
  · rw [hr, sh_call] at hn
    unfold numberS at hn
    simp at hn
    refine ⟨hn, ?_⟩
    unfold farB at hf
    rw [hr] at hf
    simp at hf
    omega
theorem goodL_of {ms : List Mac} {rts : Nat} (h : (checkS ms).1 = 0) (hf : ms.any (farB rts) = false) : GoodL ms rts := by
  obtain ⟨h1, h2, h3⟩ := (code_ok_iff ms).1 h
  refine ⟨h1, fun j m hm => goodM_of (h2 j m hm) ?_, h3⟩
  rw [List.any_eq_false] at hf
  simpa using hf m (List.mem_of_getElem? hm)
theorem rBad_zero {gs : List Glob} {rs : List Rout} {j : Nat} {r : Rout} (hr : rs[j]? = some r) (h : rBadAt gs rs j = 0) : (readL r.code).1.1 = 0 ∧ (readL r.code).2.any (farB rs.length) = false := by
  unfold rBadAt at h
  rw [hr] at h
  simp only at h
  unfold rBad at h
  split at h
  · cases h
  split at h
  · cases h
  split at h
  · cases h
  split at h
  · cases h
  · rename_i h3 h4
    exact ⟨by simpa using h3, by simpa using h4⟩
theorem goodC_of {gs : List Glob} {rs : List Rout} (hro : ROk rs) (h : (machF gs rs).1 = 0) : GoodC (imgCodes rs) := by
  obtain ⟨_, _, _, hb⟩ := machF_zero h
  intro r ms hr
  unfold imgCodes at hr ⊢
  rw [List.getElem?_map] at hr
  rw [List.length_map]
  cases hx : rs[r]? with
  | none => rw [hx] at hr; cases hr
  | some x =>
    rw [hx] at hr
    simp only [Option.map_some, Option.some.injEq] at hr
    subst hr
    obtain ⟨h1, h2⟩ := rBad_zero hx (hb r (List.getElem?_eq_some_iff.1 hx).1)
    exact goodL_of (readL_back (hro x (List.mem_of_getElem? hx)).2 h1).2.1 h2
theorem imgCodes_len (rs : List Rout) : (imgCodes rs).length = rs.length := by unfold imgCodes; rw [List.length_map]

def wordsG (g : Glob) : List Int := g.init ++ List.replicate (g.size.toNat - g.init.length) 0
/-- The memory of a run. -/
def memS (gs : List Glob) : List Int := (gs.map wordsG).flatten
theorem memS_snoc (gs : List Glob) (k : Nat) (g : Glob) (h : gs[k]? = some g) : memS (gs.take (k + 1)) = memS (gs.take k) ++ wordsG g := by
  unfold memS
  have hlt := (List.getElem?_eq_some_iff.1 h).1
  rw [List.take_succ_eq_append_getElem hlt, (List.getElem?_eq_some_iff.1 h).2, List.map_append, List.flatten_append]
  simp
structure GoodG (gs : List Glob) (k : Nat) (g : Glob) : Prop where
  lo : 1 ≤ g.size
  hi : g.size ≤ 200
  init : (g.init.length : Int) ≤ g.size
  sum : sumG (gs.take k) + g.size ≤ 200
theorem glob_good {gs : List Glob} (h : (globF gs).1 = 0) : gs.length ≤ 10 ∧ ∀ (k : Nat) (g : Glob), gs[k]? = some g → GoodG gs k g := by
  unfold globF at h
  split at h
  · cases h
  · refine ⟨by omega, fun k g hk => ?_⟩
    have hb := firstBad_zero h k (List.getElem?_eq_some_iff.1 hk).1
    unfold gBadAt at hb
    rw [hk] at hb
    simp only at hb
    unfold gBad at hb
    split at hb
    · cases hb
    split at hb
    · cases hb
    split at hb
    · cases hb
    split at hb
    · cases hb
    split at hb
    · cases hb
    · rename_i h3 h4 h5
      have h3' : 1 ≤ g.size ∧ g.size ≤ 200 := by simpa using h3
      exact ⟨h3'.1, h3'.2, by omega, by omega⟩
theorem memS_len {gs : List Glob} (h : (globF gs).1 = 0) : ∀ k, k ≤ gs.length → ((memS (gs.take k)).length : Int) = sumG (gs.take k) ∧ sumG (gs.take k) ≤ 200 := by
  intro k
  induction k with
  | zero => intro _; simp [memS, sumG]
  | succ k ih =>
    intro hk
    obtain ⟨i1, i2⟩ := ih (by omega)
    have hg : gs[k]? = some (gs[k]'(by omega)) := List.getElem?_eq_getElem _
    have hG := (glob_good h).2 k _ hg
    have g1 := hG.lo
    have g2 := hG.init
    have g3 := hG.sum
    rw [memS_snoc _ _ _ hg, sumG_snoc _ _ _ hg, List.length_append]
    unfold wordsG
    rw [List.length_append, List.length_replicate]
    omega
theorem memS_small {gs : List Glob} (h : (globF gs).1 = 0) : (memS gs).length ≤ 200 := by
  have := memS_len h gs.length (Nat.le_refl _)
  rw [List.take_length] at this
  omega

/-- The fault of running an image. -/
def runF (gs : List Glob) (rs : List Rout) (inp : List Int) (fuel : Int) : Int × Int :=
  if (machF gs rs).1 ≠ 0 then machF gs rs else if fuel < 0 ∨ 900000 < fuel then (3, -1) else if 30 < inp.length then (2, -1) else (0, 0)
def zeroM : Mch := startS [] []
def beginS (gs : List Glob) (inp : List Int) : Mch := startS (memS gs) inp
/-- What running an image comes to. -/
def runO (gs : List Glob) (rs : List Rout) (inp : List Int) (fuel : Int) : Mch :=
  if (runF gs rs inp fuel).1 ≠ 0 then zeroM else (runS (imgCodes rs) (beginS gs inp) fuel.toNat).told
def runL (gs : List Glob) (rs : List Rout) (inp : List Int) (fuel : Int) : List (List Mac) := if (runF gs rs inp fuel).1 ≠ 0 then [] else imgCodes rs
def runT (gs : List Glob) (rs : List Rout) (inp : List Int) (fuel : Int) : List (Nat × Nat) :=
  if (runF gs rs inp fuel).1 ≠ 0 then [] else metS (imgCodes rs) (beginS gs inp) fuel.toNat
theorem good_begin {gs : List Glob} {rs : List Rout} {inp : List Int} (hro : ROk rs) (h : (machF gs rs).1 = 0) (hi : inp.length ≤ 30) : GoodS (imgCodes rs) (beginS gs inp) :=
  good_start (goodC_of hro h) (by rw [imgCodes_len]; exact (machF_zero h).2.1) (memS_small (machF_zero h).1) hi
/-- A run stays where it is over. -/
theorem run_over {codes : List (List Mac)} {s : Mch} {k : Nat} (h : (runS codes s k).over = true) : ∀ n, k ≤ n → runS codes s n = runS codes s k ∧ metS codes s n = metS codes s k := by
  intro n hn
  induction n with
  | zero =>
    obtain rfl : k = 0 := by omega
    exact ⟨rfl, rfl⟩
  | succ n ih =>
    rcases Nat.lt_or_ge n k with h1 | h1
    · obtain rfl : k = n + 1 := by omega
      exact ⟨rfl, rfl⟩
    · obtain ⟨e1, e2⟩ := ih h1
      constructor
      · show (if _ then _ else _) = _
        rw [e1, if_pos h]
      · show (if _ then _ else _) = _
        rw [e1, if_pos h, e2]
theorem run_succ {codes : List (List Mac)} {s : Mch} {k : Nat} (h : (runS codes s k).over = false) : runS codes s (k + 1) = stepS codes (runS codes s k) ∧ metS codes s (k + 1) = metS codes s k ++ [(runS codes s k).pos] := by
  constructor
  · show (if _ then _ else _) = _
    rw [if_neg (by rw [h]; simp)]
  · show (if _ then _ else _) = _
    rw [if_neg (by rw [h]; simp)]
end Go.Proofs.YtdldochhondifaaGreatDoor
namespace Go.Proofs.YtdldochhondifaaGreatDoor
open Go.RowKit

theorem run_go {codes : List (List Mac)} {s : Mch} {k : Nat} {t : Mch} (h : runS codes s k = t) (ho : t.over = false) : runS codes s (k + 1) = stepS codes t := by
  rw [(run_succ (by rw [h]; exact ho)).1, h]
end Go.Proofs.YtdldochhondifaaGreatDoor
namespace Go.Proofs.YtdldochhondifaaGreatDoor
open Go.RowKit

/-- All blocks of cells stand. -/
def KeepC (W W' : World) : Prop := W.heap.size ≤ W'.heap.size ∧ ∀ (g : Nat) (cs : Array Value) (t : TypeId) (f : Nat × Nat), W.heap[g]? = some (.cells cs t f) → W'.heap[g]? = some (.cells cs t f)
theorem KeepC.refl (W : World) : KeepC W W := ⟨Nat.le_refl _, fun _ _ _ _ h => h⟩
theorem KeepC.blk {W W' : World} (h : KeepC W W') {g : Nat} {t : TypeId} {cs : Array Value} (hb : Blk W g t cs) : Blk W' g t cs := h.2 _ _ _ _ hb
theorem KeepC.cell {W W' : World} (h : KeepC W W') {b o : Nat} {v : Value} (hc : W.cell? ⟨b, o, none⟩ = some v) : W'.cell? ⟨b, o, none⟩ = some v := by
  unfold World.cell? at *
  split at hc
  · rename_i c t f hh
    rw [h.2 _ _ _ _ hh]
    exact hc
  · cases hc
theorem KeepC.row {W W' : World} (h : KeepC W W') {base : Nat} {e : TypeId} {size n : Nat} {v : Value} {xs : List Value} (ho : W.ownsRow base e size v n xs) : W'.ownsRow base e size v n xs := by
  obtain ⟨h1, h2⟩ := ho
  refine ⟨h1, ?_⟩
  rcases h2 with h2 | ⟨g, cap, cur, a, b, c, d⟩
  · exact .inl h2
  · exact .inr ⟨g, cap, cur, a, b, h.2 _ _ _ _ c, d⟩
theorem KeepC.macs {W W' : World} (h : KeepC W W') {B : Nat} {v : Value} {ms : List Mac} (hm : MacsAt W B v ms) : MacsAt W' B v ms := by
  obtain ⟨A, c, e, h1, h2, h3⟩ := hm
  refine ⟨A, c, e, h1, h2, fun hl => ?_⟩
  obtain ⟨b, off, e1, e2, e3⟩ := h3 hl
  refine ⟨b, off, e1, e2, fun k m hk => ?_⟩
  obtain ⟨a0, a1, a2, a3, a4⟩ := e3 k m hk
  exact ⟨h.cell a0, h.cell a1, h.cell a2, h.cell a3, h.cell a4⟩
theorem KeepC.codes {W W' : World} (h : KeepC W W') {B : Nat} {v : Value} {xss : List (List Mac)} (hm : CodesAt W B v xss) : CodesAt W' B v xss := by
  obtain ⟨A, c, e, h1, h2, h3⟩ := hm
  refine ⟨A, c, e, h1, h2, fun hl => ?_⟩
  obtain ⟨b, off, e1, e2, e3⟩ := h3 hl
  refine ⟨b, off, e1, e2, fun k m hk => ?_⟩
  obtain ⟨r, hr, hi⟩ := e3 k m hk
  exact ⟨r, h.cell hr, h.macs hi⟩
theorem KeepC.ints {W W' : World} (h : KeepC W W') {B : Nat} {v : Value} {xs : List Int} (hm : IntsAt W B v xs) : IntsAt W' B v xs := by
  obtain ⟨A, c, e, h1, h2, h3⟩ := hm
  refine ⟨A, c, e, h1, h2, fun hl => ?_⟩
  obtain ⟨b, off, e1, e2, e3⟩ := h3 hl
  exact ⟨b, off, e1, e2, fun k m hk => h.cell (e3 k m hk)⟩
theorem MachIs.kept {W W' : World} {base g : Nat} {codes : List (List Mac)} {s : Mch} (hm : MachIs W base g codes s) (h : KeepC W W') : MachIs W' base g codes s := by
  obtain ⟨hg, cv, mv, lv, iv, ov, ps, h1, h2⟩ := hm
  exact ⟨hg, cv, mv, lv, iv, ov, ps, h.blk h1, h.codes h2.hcodes, h.row h2.hmem, h.row h2.hcalls, h.ints h2.hinput, h.row h2.hout, h2.apart, h2.frs.keep fun p _ l hp => h.blk hp⟩
/-- The memory's row has grown. -/
theorem MRest.grow {w w4 : World} {base g n H : Nat} {codes : List (List Mac)} {mem mem' : List Int} {calls : List Fr} {input out : List Int} {cv mv mv' lv iv ov : Value} {ps : List Nat} {ms : Array Value}
    (h : Blk w g 197 ms ∧ MRest w base codes mem calls input out cv mv lv iv ov ps) (hH : w.heap.size = H) (hn : n = mem'.length) {l : List Value} (hl : l = intV mem')
    (ap : Appended w base 3 1 mv n l H mv' w4) : Blk w4 g 197 ms ∧ MRest w4 base codes mem' calls input out cv mv' lv iv ov ps := by
  subst hn
  subst hl
  subst hH
  obtain ⟨h1, h2⟩ := h
  have hol := World.ownsRow.lt h2.hout
  refine ⟨ap.blk h2.hmem h1 (by decide), h2.hcodes.below ap.below (Nat.le_refl _), ap.own, ap.row h2.hcalls (own_apart2 h2.hcalls h2.hmem (by decide)), h2.hinput.below ap.below (Nat.le_refl _), ap.row h2.hout ?_, ?_, h2.frs.keep fun p _ l hp => ap.blk h2.hmem hp (by decide)⟩
  · intro k hk hk'
    exact h2.apart k hk' hk
  · intro k hk
    rcases ap.2.2.2 with e | e
    · rw [e] at hk
      exact h2.apart k hk
    · rw [e] at hk
      cases hk
      intro hk'
      exact absurd (hol _ hk').2 (Nat.lt_irrefl _)
theorem Blk.set4 {w : World} {g : Nat} {t : TypeId} {x0 x1 x2 x3 : Value} (h : Blk w g t #[x0, x1, x2, x3]) (a b c d : Value) : Blk ((((w.setCell ⟨g, 0, none⟩ a).setCell ⟨g, 1, none⟩ b).setCell ⟨g, 2, none⟩ c).setCell ⟨g, 3, none⟩ d) g t #[a, b, c, d] :=
  (((h.set_ 0 a).set_ 1 b).set_ 2 c).set_ 3 d
/-- The end of a function whose second and third results lie in cells. -/
theorem end_tmp_cells {P : Program} {fn : Func} {R : Ending → World → Prop} {a : Act} {w : World} {q p p' : Tmp} {ty t ty' t' : TypeId} {g g' : Nat} {cs cs' : Array Value} {d d' : TypeDesc} (h : fn.results = #[.tmp q, .cell p ty, .cell p' ty'])
    (hp : a.tmps.getD p undef = .pointer (some ⟨g, 0, none⟩)) (hp' : a.tmps.getD p' undef = .pointer (some ⟨g', 0, none⟩)) (hb : Blk w g t cs) (hb' : Blk w g' t' cs') (hu : P.underlying ty = some d) (hd : (match d with | .struct _ | .array _ _ => true | _ => false) = true)
    (hu' : P.underlying ty' = some d') (hd' : (match d' with | .struct _ | .array _ _ => true | _ => false) = true) (hi : (P.info? ty).map (·.size) = some cs.size) (hi' : (P.info? ty').map (·.size) = some cs'.size) (hdf : a.defers = [])
    (hR : R (.returned (.tuple #[a.tmps.getD q undef, .agg cs, .agg cs'])) w) : bodyPost P fn R .ret a w := by
  refine bodyPost_ret (v := .tuple #[a.tmps.getD q undef, .agg cs, .agg cs']) ?_ hdf hR
  have hp1 : a.tmps[p]?.getD undef = .pointer (some ⟨g, 0, none⟩) := by simpa using hp
  have hp2 : a.tmps[p']?.getD undef = .pointer (some ⟨g', 0, none⟩) := by simpa using hp'
  simp [results, h, hp1, hp2, asAddr, run_loadVar_row w g t ty cs (0, 0) d hb hu hd hi, run_loadVar_row w g' t' ty' cs' (0, 0) d' hb' hu' hd' hi']
/-- The end of a function whose two results lie in cells. -/
theorem end_cells {P : Program} {fn : Func} {R : Ending → World → Prop} {a : Act} {w : World} {p p' : Tmp} {ty t ty' t' : TypeId} {g g' : Nat} {cs cs' : Array Value} {d d' : TypeDesc} (h : fn.results = #[.cell p ty, .cell p' ty'])
    (hp : a.tmps.getD p undef = .pointer (some ⟨g, 0, none⟩)) (hp' : a.tmps.getD p' undef = .pointer (some ⟨g', 0, none⟩)) (hb : Blk w g t cs) (hb' : Blk w g' t' cs') (hu : P.underlying ty = some d) (hd : (match d with | .struct _ | .array _ _ => true | _ => false) = true)
    (hu' : P.underlying ty' = some d') (hd' : (match d' with | .struct _ | .array _ _ => true | _ => false) = true) (hi : (P.info? ty).map (·.size) = some cs.size) (hi' : (P.info? ty').map (·.size) = some cs'.size) (hdf : a.defers = [])
    (hR : R (.returned (.tuple #[.agg cs, .agg cs'])) w) : bodyPost P fn R .ret a w := by
  refine bodyPost_ret (v := .tuple #[.agg cs, .agg cs']) ?_ hdf hR
  have hp1 : a.tmps[p]?.getD undef = .pointer (some ⟨g, 0, none⟩) := by simpa using hp
  have hp2 : a.tmps[p']?.getD undef = .pointer (some ⟨g', 0, none⟩) := by simpa using hp'
  simp [results, h, hp1, hp2, asAddr, run_loadVar_row w g t ty cs (0, 0) d hb hu hd hi, run_loadVar_row w g' t' ty' cs' (0, 0) d' hb' hu' hd' hi']
/-- What a run comes to. -/
def RunPost (w : World) (b0 : Nat) (J : World → List (Nat × Nat) → Prop) (s : Mch) (f : Int × Int) (css : List (List Mac)) (tr : List (Nat × Nat)) (e : Ending) (w' : World) : Prop :=
  ∃ v ov, e = .returned (.tuple #[v, .agg #[.int .i64 s.state, .int .i64 s.value, ov, .int .i64 (s.steps : Int)], .agg #[.int .i64 f.1, .int .i64 f.2]]) ∧ CodesAt w' w'.heap.size v css ∧ w'.ownsRow w.heap.size 3 1 ov s.out.length (intV s.out) ∧ Below b0 w w' ∧ J w' tr ∧ ∀ g t cs, Blk w g t cs → Blk w' g t cs
/-- What stands while a run goes on. -/
structure RunNow (w : World) (b0 gi : Nat) (gv rv : Value) (J : World → List (Nat × Nat) → Prop) (tr : List (Nat × Nat)) (wx : World) : Prop where
  img : Blk wx gi 43 #[gv, rv]
  res : Blk wx (gi + 1) 97 #[.int .i64 0, .int .i64 0, .slice none 0 0, .int .i64 0]
  flt : Blk wx (gi + 1 + 1) 24 #[.int .i64 0, .int .i64 0]
  below : Below b0 w wx
  kept : J wx tr
  keep : ∀ g t cs, g < gi → Blk w g t cs → Blk wx g t cs
theorem RunNow.next {w : World} {b0 gi B : Nat} {gv rv : Value} {J : World → List (Nat × Nat) → Prop} {tr : List (Nat × Nat)} {wx wy : World} (h : RunNow w b0 gi gv rv J tr wx) (hb : Below B wx wy) (hB : gi + 3 ≤ B) (hb0 : b0 ≤ B) (hJ : ∀ W W' tr, J W tr → Below gi W W' → J W' tr) : RunNow w b0 gi gv rv J tr wy :=
  ⟨h.img.below hb (by omega), h.res.below hb (by omega), h.flt.below hb (by omega), h.below.trans (hb.mono hb0), hJ _ _ _ h.kept (hb.mono (by omega)), fun g t cs hg hk => (h.keep g t cs hg hk).below hb (by omega)⟩
theorem RunNow.met {w : World} {b0 gi : Nat} {gv rv : Value} {J : World → List (Nat × Nat) → Prop} {tr tr' : List (Nat × Nat)} {wx wy : World} (h : RunNow w b0 gi gv rv J tr wx) (hk : KeepC wx wy) (hb : Below b0 wx wy) (hJ : J wy tr') : RunNow w b0 gi gv rv J tr' wy :=
  ⟨hk.blk h.img, hk.blk h.res, hk.blk h.flt, h.below.trans hb, hJ, fun g t cs hg hc => hk.blk (h.keep g t cs hg hc)⟩
theorem RunNow.end_ {w : World} {b0 gi : Nat} {gv rv : Value} {J : World → List (Nat × Nat) → Prop} {tr : List (Nat × Nat)} {wx : World} (h : RunNow w b0 gi gv rv J tr wx) (a b c d x y : Value) :
    Blk ((((((wx.setCell ⟨gi + 1, 0, none⟩ a).setCell ⟨gi + 1, 1, none⟩ b).setCell ⟨gi + 1, 2, none⟩ c).setCell ⟨gi + 1, 3, none⟩ d).setCell ⟨gi + 1 + 1, 0, none⟩ x).setCell ⟨gi + 1 + 1, 1, none⟩ y) (gi + 1) 97 #[a, b, c, d] ∧
    Blk ((((((wx.setCell ⟨gi + 1, 0, none⟩ a).setCell ⟨gi + 1, 1, none⟩ b).setCell ⟨gi + 1, 2, none⟩ c).setCell ⟨gi + 1, 3, none⟩ d).setCell ⟨gi + 1 + 1, 0, none⟩ x).setCell ⟨gi + 1 + 1, 1, none⟩ y) (gi + 1 + 1) 24 #[x, y] ∧
    Below (gi + 1) wx ((((((wx.setCell ⟨gi + 1, 0, none⟩ a).setCell ⟨gi + 1, 1, none⟩ b).setCell ⟨gi + 1, 2, none⟩ c).setCell ⟨gi + 1, 3, none⟩ d).setCell ⟨gi + 1 + 1, 0, none⟩ x).setCell ⟨gi + 1 + 1, 1, none⟩ y) := by
  refine ⟨?_, ?_, ?_⟩
  · exact (((h.res.set4 a b c d).far (by simp) x).far (by simp) y)
  · exact Blk.set2 ((((h.flt.far (by simp) a).far (by simp) b).far (by simp) c).far (by simp) d) x y
  · exact ((((((Below.refl _ _).setCell (by simp) _).setCell (by simp) _).setCell (by simp) _).setCell (by simp) _).setCell (by simp) _).setCell (by simp) _
theorem run_fault {w wx wy : World} {b0 gi : Nat} {gv rv : Value} {J : World → List (Nat × Nat) → Prop} (h : RunNow w b0 gi gv rv J [] wx) (hb : Below gi wx wy) (hb0 : b0 ≤ gi) (hJ : ∀ W W' tr, J W tr → Below gi W W' → J W' tr) (hgi : w.heap.size = gi) (f : Int × Int) :
    RunPost w b0 J zeroM f [] [] (.returned (.tuple #[.slice none 0 0, .agg #[.int .i64 0, .int .i64 0, .slice none 0 0, .int .i64 0], .agg #[.int .i64 f.1, .int .i64 f.2]])) wy :=
  ⟨_, _, rfl, CodesAt.nil _ _, World.ownsRow_nil _ _ _ _, h.below.trans (hb.mono hb0), hJ _ _ _ h.kept hb, fun g t cs hc => (h.keep g t cs (hgi ▸ hc.lt) hc).below hb (hgi ▸ hc.lt)⟩
theorem run_bad {gs : List Glob} {rs : List Rout} {inp : List Int} {fuel : Int} {f : Int × Int} (h : runF gs rs inp fuel = f) (h0 : f.1 ≠ 0) : runO gs rs inp fuel = zeroM ∧ runL gs rs inp fuel = [] ∧ runT gs rs inp fuel = [] := by
  subst h
  unfold runO runL runT
  rw [if_pos h0, if_pos h0, if_pos h0]
  exact ⟨rfl, rfl, rfl⟩
theorem run_fine {gs : List Glob} {rs : List Rout} {inp : List Int} {fuel : Int} (h : runF gs rs inp fuel = (0, 0)) : runO gs rs inp fuel = (runS (imgCodes rs) (beginS gs inp) fuel.toNat).told ∧ runL gs rs inp fuel = imgCodes rs ∧ runT gs rs inp fuel = metS (imgCodes rs) (beginS gs inp) fuel.toNat := by
  unfold runO runL runT
  rw [h]
  exact ⟨rfl, rfl, rfl⟩
set_option maxRecDepth 100000 in
theorem zeroFr : Tryz.zeroCells193 = (frCells ⟨0, 0, List.replicate 120 0⟩).toArray := by kernel_rfl
/-- The new machine. -/
theorem mach_new {W : World} {codes : List (List Mac)} {inp : List Int} {cv iv : Value} (hc : CodesAt W W.heap.size cv codes) (hi : IntsAt W W.heap.size iv inp) :
    MachIs (((W.alloc (.cells Tryz.zeroCells193 193)).alloc (.cells #[.pointer (some ⟨W.heap.size, 0, none⟩)] 190)).alloc
      (.cells #[cv, .int .i64 0, .int .i64 0, .int .i64 0, .int .i64 0, .int .i64 0, .int .i64 0, .int .i64 0, .int .i64 0, .int .i64 0, .int .i64 0, .int .i64 0, .int .i64 0, .int .i64 0, .int .i64 0, .int .i64 0, .int .i64 0, .slice none 0 0,
        .slice (some ⟨W.heap.size + 1, 0, none⟩) 1 1, iv, .int .i64 0, .int .i64 0, .slice none 0 0, .int .i64 0, .bool false] 197)) W.heap.size (W.heap.size + 1 + 1) codes (startS [] inp) := by
  rw [zeroFr]
  have hf : Blk (W.alloc (.cells (frCells ⟨0, 0, List.replicate 120 0⟩).toArray 193)) W.heap.size 193 (frCells ⟨0, 0, List.replicate 120 0⟩).toArray := Blk.new _ _ _
  have hA : Below W.heap.size W (W.alloc (.cells (frCells ⟨0, 0, List.replicate 120 0⟩).toArray 193)) := (Below.refl _ _).alloc (Nat.le_refl _) _
  have hs : (W.alloc (.cells (frCells ⟨0, 0, List.replicate 120 0⟩).toArray 193)).heap.size = W.heap.size + 1 := by simp
  generalize W.alloc (.cells (frCells ⟨0, 0, List.replicate 120 0⟩).toArray 193) = W1 at *
  have ho := World.ownsRow_lit (base := W.heap.size) (size := 1) (e := 190) W1 #[.pointer (some ⟨W.heap.size, 0, none⟩)] 1 (by omega) (by decide) rfl
  rw [hs] at ho
  have hf2 := hf.alloc (.cells #[.pointer (some ⟨W.heap.size, 0, none⟩)] 190)
  have hB := hA.alloc (by omega) (.cells #[.pointer (some ⟨W.heap.size, 0, none⟩)] 190)
  have hs2 : (W1.alloc (.cells #[.pointer (some ⟨W.heap.size, 0, none⟩)] 190)).heap.size = W.heap.size + 1 + 1 := by simp [hs]
  generalize W1.alloc (.cells #[.pointer (some ⟨W.heap.size, 0, none⟩)] 190) = W2 at *
  refine ⟨by omega, cv, .slice none 0 0, .slice (some ⟨W.heap.size + 1, 0, none⟩) 1 1, iv, .slice none 0 0, [W.heap.size], ?_, ?_⟩
  · rw [← hs2]
    exact Blk.new W2 _ _
  · have hC := hB.alloc (by omega) (.cells #[cv, .int .i64 0, .int .i64 0, .int .i64 0, .int .i64 0, .int .i64 0, .int .i64 0, .int .i64 0, .int .i64 0, .int .i64 0, .int .i64 0, .int .i64 0, .int .i64 0, .int .i64 0, .int .i64 0, .int .i64 0, .int .i64 0, .slice none 0 0,
        .slice (some ⟨W.heap.size + 1, 0, none⟩) 1 1, iv, .int .i64 0, .int .i64 0, .slice none 0 0, .int .i64 0, .bool false] 197)
    exact ⟨hc.below hC (Nat.le_refl _), World.ownsRow_nil _ _ _ _, World.ownsRow.alloc ho _, hi.below hC (Nat.le_refl _), World.ownsRow_nil _ _ _ _, fun k hk => by simp [Value.ownBlock] at hk, Nat.le_refl _, by simp, hf2.alloc _, trivial⟩
theorem ints_src {w : World} {B n c : Nat} {A : Option Addr} {xs : List Int} (h : IntsAt w B (.slice A n c) xs) : 0 < n → ∃ ad, A = some ad ∧ ∀ j u, (intV xs)[j]? = some u → w.cell? (ad.add j) = some u := by
  intro hn
  obtain ⟨A', c', e, h1, h2, h3⟩ := h
  cases e
  obtain ⟨b, off, e1, _, e3⟩ := h3 hn
  subst e1
  refine ⟨_, rfl, fun j u hj => ?_⟩
  rw [intV_at] at hj
  cases hx : xs[j]? with
  | none => rw [hx] at hj; cases hj
  | some x =>
    rw [hx] at hj
    simp only [Option.map_some, Option.some.injEq] at hj
    subst hj
    have := e3 j x hx
    have e : (⟨b, off, none⟩ : Addr).add j = ⟨b, off + j, none⟩ := by
      unfold Addr.add
      split <;> simp_all
    rw [e]
    exact this
theorem intV_app (a b : List Int) : intV a ++ intV b = intV (a ++ b) := by unfold intV; rw [List.map_append]
theorem intV_rep (m : Nat) : List.replicate m (Value.int .i64 0) = intV (List.replicate m 0) := by unfold intV; rw [List.map_replicate]
/-- Instructions between two blocks' numbers. -/
def MacsHi (w : World) (lo B : Nat) (v : Value) (ms : List Mac) : Prop :=
  ∃ (A : Option Addr) (c : Nat), v = .slice A ms.length c ∧ ms.length ≤ c ∧ ms.length ≤ 9223372036854775807 ∧
    (0 < ms.length → ∃ b off, A = some ⟨b, off, none⟩ ∧ lo ≤ b ∧ b < B ∧ ∀ (k : Nat) (m : Mac), ms[k]? = some m → MacAt w b (off + k * 5) m)
def CodesHi (w : World) (lo B : Nat) (v : Value) (xss : List (List Mac)) : Prop :=
  ∃ (A : Option Addr) (c : Nat), v = .slice A xss.length c ∧ xss.length ≤ c ∧ c ≤ 9223372036854775807 ∧
    (0 < xss.length → ∃ b off, A = some ⟨b, off, none⟩ ∧ lo ≤ b ∧ b < B ∧ ∀ (k : Nat) (xs : List Mac), xss[k]? = some xs → ∃ r, w.cell? ⟨b, off + k, none⟩ = some r ∧ MacsHi w lo B r xs)
section
variable {w w' : World} {lo B : Nat} {v : Value}
theorem MacsHi.turn {ms : List Mac} (h : MacsHi w lo B v ms) (hc : ∀ b o u, lo ≤ b → b < B → w.cell? ⟨b, o, none⟩ = some u → w'.cell? ⟨b, o, none⟩ = some u) : MacsHi w' lo B v ms := by
  obtain ⟨A, c, e, h1, h2, h3⟩ := h
  refine ⟨A, c, e, h1, h2, fun hl => ?_⟩
  obtain ⟨b, off, e1, e2, e3, e4⟩ := h3 hl
  refine ⟨b, off, e1, e2, e3, fun k m hk => ?_⟩
  obtain ⟨a0, a1, a2, a3, a4⟩ := e4 k m hk
  exact ⟨hc _ _ _ e2 e3 a0, hc _ _ _ e2 e3 a1, hc _ _ _ e2 e3 a2, hc _ _ _ e2 e3 a3, hc _ _ _ e2 e3 a4⟩
theorem CodesHi.turn {xss : List (List Mac)} (h : CodesHi w lo B v xss) (hc : ∀ b o u, lo ≤ b → b < B → w.cell? ⟨b, o, none⟩ = some u → w'.cell? ⟨b, o, none⟩ = some u) : CodesHi w' lo B v xss := by
  obtain ⟨A, c, e, h1, h2, h3⟩ := h
  refine ⟨A, c, e, h1, h2, fun hl => ?_⟩
  obtain ⟨b, off, e1, e2, e3, e4⟩ := h3 hl
  refine ⟨b, off, e1, e2, e3, fun k m hk => ?_⟩
  obtain ⟨r, hr, hi⟩ := e4 k m hk
  exact ⟨r, hc _ _ _ e2 e3 hr, hi.turn hc⟩
theorem CodesHi.below {xss : List (List Mac)} (h : CodesHi w lo B v xss) (hb : Below B w w') : CodesHi w' lo B v xss := h.turn fun _ _ _ _ h2 hc => (bcell hb h2).trans hc
theorem CodesHi.kept {xss : List (List Mac)} (h : CodesHi w lo B v xss) (hk : KeepC w w') : CodesHi w' lo B v xss := h.turn fun _ _ _ _ _ hc => hk.cell hc
theorem CodesHi.low {xss : List (List Mac)} (h : CodesHi w lo B v xss) {b o : Nat} (hb : b < lo) (u : Value) : CodesHi (w.setCell ⟨b, o, none⟩ u) lo B v xss :=
  h.turn fun b' o' u' h1 _ hc => (World.cell?_setCell_far w ⟨b, o, none⟩ ⟨b', o', none⟩ u (by show b ≠ b'; omega)).trans hc
theorem MacsHi.to {ms : List Mac} (h : MacsHi w lo B v ms) : MacsAt w B v ms := by
  obtain ⟨A, c, e, h1, h2, h3⟩ := h
  refine ⟨A, c, e, h1, h2, fun hl => ?_⟩
  obtain ⟨b, off, e1, _, e3, e4⟩ := h3 hl
  exact ⟨b, off, e1, e3, e4⟩
theorem CodesHi.to {xss : List (List Mac)} (h : CodesHi w lo B v xss) : CodesAt w B v xss := by
  obtain ⟨A, c, e, h1, h2, h3⟩ := h
  refine ⟨A, c, e, h1, h2, fun hl => ?_⟩
  obtain ⟨b, off, e1, _, e3, e4⟩ := h3 hl
  refine ⟨b, off, e1, e3, fun k m hk => ?_⟩
  obtain ⟨r, hr, hi⟩ := e4 k m hk
  exact ⟨r, hr, hi.to⟩
theorem OwnMacs.hi {ms : List Mac} (h : OwnMacs w lo v ms) : MacsHi w lo w.heap.size v ms := by
  obtain ⟨A, c, e, h1, h2, h3⟩ := h.macs
  refine ⟨A, c, e, h1, h2, fun hl => ?_⟩
  obtain ⟨b, off, e1, e3, e4⟩ := h3 hl
  subst e1
  refine ⟨b, off, rfl, ?_, e3, e4⟩
  subst e
  rcases h.2 with ⟨h', _⟩ | ⟨g', cap', cur', h', hb, _⟩
  · simp at h'
  · simp only [Value.slice.injEq, Option.some.injEq, Addr.mk.injEq, and_true, true_and] at h'
    obtain ⟨⟨rfl, _⟩, _⟩ := h'
    exact hb
theorem CodesOwn.hi {xss : List (List Mac)} (h : CodesOwn w lo v xss) : CodesHi w lo w.heap.size v xss := by
  obtain ⟨rs, h1, h2, h3⟩ := h
  rcases h2.2 with ⟨rfl, hn⟩ | ⟨g, cap, cur, rfl, hlo, hgg, hnc, hcm, _, _⟩
  · have : xss = [] := List.eq_nil_of_length_eq_zero (by omega)
    subst this
    exact ⟨none, 0, rfl, by simp, by omega, fun h => by simp at h⟩
  · refine ⟨some ⟨g, 0, none⟩, cap, by rw [h1], by omega, by unfold maxLen at hcm; omega, fun _ => ⟨g, 0, rfl, hlo, (World.ownsRow.lt h2 g rfl).2, fun k xs hk => ?_⟩⟩
    have hkl : k < rs.length := by have := (List.getElem?_eq_some_iff.1 hk).1; omega
    have hc := World.ownsRow.cells h2 (g := g) rfl k rs[k] (List.getElem?_eq_getElem hkl)
    have e : (⟨g, 0, none⟩ : Addr).add k = ⟨g, 0 + k, none⟩ := by
      unfold Addr.add
      split <;> simp_all
    rw [e] at hc
    exact ⟨_, hc, (h3 k _ xs (List.getElem?_eq_getElem hkl) hk).hi⟩
end
theorem row_le {w : World} {base base' n size : Nat} {e : TypeId} {v : Value} {xs : List Value} (h : w.ownsRow base e size v n xs) (hb : base' ≤ base) : w.ownsRow base' e size v n xs := by
  obtain ⟨h1, h2⟩ := h
  refine ⟨h1, ?_⟩
  rcases h2 with h2 | ⟨g, cap, cur, a, b, c⟩
  · exact .inl h2
  · exact .inr ⟨g, cap, cur, a, by omega, c⟩
/-- How a run that was not refused ends. -/
theorem run_done {w wx : World} {b0 gi base lo n rb : Nat} {gv rv cv ov : Value} {J : World → List (Nat × Nat) → Prop} {tr : List (Nat × Nat)} {css : List (List Mac)} {s : Mch} (h : RunNow w b0 gi gv rv J tr wx) (hC : CodesHi wx lo base cv css) (hlo : gi + 3 ≤ lo) (hbs : base ≤ wx.heap.size)
    (ho : wx.ownsRow rb 3 1 ov n (intV s.out)) (hn : n = s.out.length) (hrb : w.heap.size ≤ rb) (hgi : w.heap.size = gi) (hb0 : b0 ≤ gi) (hJ : ∀ W W' tr, J W tr → Below gi W W' → J W' tr) :
    RunPost w b0 J s (0, 0) css tr (.returned (.tuple #[cv, .agg #[.int .i64 s.state, .int .i64 s.value, ov, .int .i64 (s.steps : Int)], .agg #[.int .i64 0, .int .i64 0]]))
      ((((((wx.setCell ⟨gi + 1, 0, none⟩ (.int .i64 s.state)).setCell ⟨gi + 1, 1, none⟩ (.int .i64 s.value)).setCell ⟨gi + 1, 2, none⟩ ov).setCell ⟨gi + 1, 3, none⟩ (.int .i64 (s.steps : Int))).setCell ⟨gi + 1 + 1, 0, none⟩ (.int .i64 0)).setCell ⟨gi + 1 + 1, 1, none⟩ (.int .i64 0)).drew := by
  have hend := (h.end_ (.int .i64 s.state) (.int .i64 s.value) ov (.int .i64 (s.steps : Int)) (.int .i64 0) (.int .i64 0)).2.2
  have h1 := (((((hC.low (o := 0) (show gi + 1 < lo by omega) (.int .i64 s.state)).low (o := 1) (show gi + 1 < lo by omega) (.int .i64 s.value)).low (o := 2) (show gi + 1 < lo by omega) ov).low (o := 3) (show gi + 1 < lo by omega) (.int .i64 (s.steps : Int))).low (o := 0) (show gi + 1 + 1 < lo by omega) (.int .i64 0)).low (o := 1) (show gi + 1 + 1 < lo by omega) (.int .i64 0)
  have r := h.res
  have f := h.flt
  have o1 := row_far (o := 0) ho r (by decide) (.int .i64 s.state)
  have r1 := r.set_ 0 (.int .i64 s.state)
  have o2 := row_far (o := 1) o1 r1 (by decide) (.int .i64 s.value)
  have r2 := r1.set_ 1 (.int .i64 s.value)
  have o3 := row_far (o := 2) o2 r2 (by decide) ov
  have r3 := r2.set_ 2 ov
  have o4 := row_far (o := 3) o3 r3 (by decide) (.int .i64 (s.steps : Int))
  have f4 := (((f.far (p := ⟨gi + 1, 0, none⟩) (by simp) (.int .i64 s.state)).far (p := ⟨gi + 1, 1, none⟩) (by simp) (.int .i64 s.value)).far (p := ⟨gi + 1, 2, none⟩) (by simp) ov).far (p := ⟨gi + 1, 3, none⟩) (by simp) (.int .i64 (s.steps : Int))
  have o5 := row_far (o := 0) o4 f4 (by decide) (.int .i64 0)
  have f5 := f4.set_ 0 (.int .i64 0)
  have o6 := row_far (o := 1) o5 f5 (by decide) (.int .i64 0)
  clear o1 o2 o3 o4 o5 r1 r2 r3 f4 f5
  generalize (((((wx.setCell ⟨gi + 1, 0, none⟩ (.int .i64 s.state)).setCell ⟨gi + 1, 1, none⟩ (.int .i64 s.value)).setCell ⟨gi + 1, 2, none⟩ ov).setCell ⟨gi + 1, 3, none⟩ (.int .i64 (s.steps : Int))).setCell ⟨gi + 1 + 1, 0, none⟩ (.int .i64 0)).setCell ⟨gi + 1 + 1, 1, none⟩ (.int .i64 0) = W at *
  have hd : Below W.heap.size W W.drew := below_drew1 (Below.refl _ _)
  have hB := below_drew1 (hend.mono (show gi ≤ gi + 1 by omega))
  have hz : base ≤ W.heap.size := Nat.le_trans hbs hend.size
  exact ⟨cv, ov, rfl, (h1.to.more hz).below hd (Nat.le_refl _), (hn ▸ row_le (base' := w.heap.size) o6 hrb : W.ownsRow w.heap.size 3 1 ov s.out.length (intV s.out)), h.below.trans (hB.mono hb0), hJ _ _ _ h.kept hB, fun g t cs hc => (h.keep g t cs (hgi ▸ hc.lt) hc).below hB (hgi ▸ hc.lt)⟩
/-- What stands after so many steps that k are left. -/
def goRel (css : List (List Mac)) (s0 : Mch) (fn : Nat) (w : World) (b0 gi : Nat) (gv rv : Value) (J : World → List (Nat × Nat) → Prop) (base lo hi : Nat) (cv : Value) (k : Nat) (wr : World) : Prop :=
  ∃ j, j + k = fn ∧ Hid (MachIs wr base (base + 1 + 1) css (runS css s0 j)) ∧ Hid ((runS css s0 j).steps = j) ∧ Hid (RunNow w b0 gi gv rv J (metS css s0 j) wr) ∧ Hid (CodesHi wr lo hi cv css)
/-- A row of numbers stands where the results are laid down. -/
theorem RunNow.row {w : World} {b0 gi rb n size : Nat} {gv rv v : Value} {l : List Value} {J : World → List (Nat × Nat) → Prop} {tr : List (Nat × Nat)} {wx : World} (h : RunNow w b0 gi gv rv J tr wx) {e : TypeId} (ho : wx.ownsRow rb e size v n l) (h1 : e ≠ 97) (h2 : e ≠ 24) (a b c d x y : Value) :
    ((((((wx.setCell ⟨gi + 1, 0, none⟩ a).setCell ⟨gi + 1, 1, none⟩ b).setCell ⟨gi + 1, 2, none⟩ c).setCell ⟨gi + 1, 3, none⟩ d).setCell ⟨gi + 1 + 1, 0, none⟩ x).setCell ⟨gi + 1 + 1, 1, none⟩ y).ownsRow rb e size v n l := by
  have r := h.res
  have f := h.flt
  have o1 := row_far (o := 0) ho r h1 a
  have r1 := r.set_ 0 a
  have o2 := row_far (o := 1) o1 r1 h1 b
  have r2 := r1.set_ 1 b
  have o3 := row_far (o := 2) o2 r2 h1 c
  have r3 := r2.set_ 2 c
  have o4 := row_far (o := 3) o3 r3 h1 d
  have f4 := (((f.far (p := ⟨gi + 1, 0, none⟩) (by simp) a).far (p := ⟨gi + 1, 1, none⟩) (by simp) b).far (p := ⟨gi + 1, 2, none⟩) (by simp) c).far (p := ⟨gi + 1, 3, none⟩) (by simp) d
  have o5 := row_far (o := 0) o4 f4 h2 x
  have f5 := f4.set_ 0 x
  exact row_far (o := 1) o5 f5 h2 y
end Go.Proofs.YtdldochhondifaaGreatDoor
namespace Go.Proofs.YtdldochhondifaaGreatDoor
open Go.RowKit

theorem pos_lt {codes : List (List Mac)} {s : Mch} (hl : codes.length < 5000) (hc : GoodC codes) (hg : GoodS codes s) (ho : s.over = false) : s.pos.1 < 5000 ∧ s.pos.2 < 5000 := by
  unfold Mch.pos
  cases hcs : s.calls with
  | nil => exact absurd hcs (hg.some ho)
  | cons c cs =>
    obtain ⟨ms, h1, h2, _⟩ := hg.frs c (by rw [hcs]; simp)
    have hlt : c.r < codes.length := by
      rcases Nat.lt_or_ge c.r codes.length with h | h
      · exact h
      · rw [List.getElem?_eq_none h] at h1; cases h1
    have := (hc _ _ h1).many
    exact ⟨by show c.r < 5000; omega, by show c.pc < 5000; omega⟩
/-- What the closure that a run is handed does. -/
def MetDoes (F : FuncId) (cap : Array Value) (w : World) (b0 : Nat) (J : World → List (Nat × Nat) → Prop) : Prop :=
  (∀ (a : Array Value) (W : World), (callFunc F a).run Tryz.prog W = .ok (.enter F a) W) ∧
  (∀ (r pc : Nat) (W : World) (tr : List (Nat × Nat)), r < 5000 → pc < 5000 → w.heap.size ≤ W.heap.size → J W tr → Calls Tryz.prog F (#[.int .i64 (r : Int), .int .i64 (pc : Int)] ++ cap) W fun e W' => e = .returned (.tuple #[]) ∧ KeepC W W' ∧ Below b0 W W' ∧ J W' (tr ++ [(r, pc)]))
set_option maxRecDepth 100000 in
set_option maxHeartbeats 8000000 in
theorem run_any (F : FuncId) (cap : Array Value) (gv rv iv : Value) (gs : List Glob) (rs : List Rout) (inp : List Int) (fuel : Int) (w : World) (b0 : Nat) (J : World → List (Nat × Nat) → Prop) (hg : GlobsAt w b0 gv gs) (hr : RoutsAt w b0 rv rs) (hin : IntsAt w b0 iv inp)
    (hgo : GOk gs) (hro : ROk rs) (ht : Tab w) (hb0 : b0 ≤ w.heap.size) (hJ : ∀ W W' tr, J W tr → Below w.heap.size W W' → J W' tr) (hJ0 : J w []) (hF : MetDoes F cap w b0 J) :
    Calls Tryz.prog 95 #[.agg #[gv, rv], iv, .int .i64 fuel, .func (.func F) #[] cap] w (RunPost w b0 J (runO gs rs inp fuel) (runF gs rs inp fuel) (runL gs rs inp fuel) (runT gs rs inp fuel)) := by
  have HF := Lib.hid hF.2
  have HJ := Lib.hid hJ
  have hc := hF.1
  have hA : Below w.heap.size w (((w.alloc (.cells #[gv, rv] 43)).alloc (.cells #[.int .i64 0, .int .i64 0, .slice none 0 0, .int .i64 0] 97)).alloc (.cells #[.int .i64 0, .int .i64 0] 24)) := (((Below.refl _ _).alloc (Nat.le_refl _) _).alloc (by simp) _).alloc (by simp; omega) _
  have HN : Hid (RunNow w b0 w.heap.size gv rv J [] (((w.alloc (.cells #[gv, rv] 43)).alloc (.cells #[.int .i64 0, .int .i64 0, .slice none 0 0, .int .i64 0] 97)).alloc (.cells #[.int .i64 0, .int .i64 0] 24))) := Lib.hid
    ⟨((Blk.new w _ _).alloc _).alloc _, Blk.alloc (by have := Blk.new (w.alloc (.cells #[gv, rv] 43)) 97 #[.int .i64 0, .int .i64 0, .slice none 0 0, .int .i64 0]; simpa using this) _,
      by have := Blk.new ((w.alloc (.cells #[gv, rv] 43)).alloc (.cells #[.int .i64 0, .int .i64 0, .slice none 0 0, .int .i64 0] 97)) 24 #[.int .i64 0, .int .i64 0]; simpa using this, hA.mono hb0, hJ _ _ _ hJ0 hA, fun g t cs hg hc => hc.below hA hg⟩
  have HZ : Hid (w.heap.size + 3 ≤ (((w.alloc (.cells #[gv, rv] 43)).alloc (.cells #[.int .i64 0, .int .i64 0, .slice none 0 0, .int .i64 0] 97)).alloc (.cells #[.int .i64 0, .int .i64 0] 24)).heap.size) := Lib.hid (by simp)
  have HA := Lib.hid hA
  have HG := Lib.hid hg
  have HR := Lib.hid hr
  have HI := Lib.hid hin
  have HGo := Lib.hid hgo
  have HRo := Lib.hid hro
  have HT := Lib.hid ht
  clear hF hJ hA hg hr hin hgo hro ht hJ0
  obtain ⟨fR, hfR⟩ : ∃ f, runF gs rs inp fuel = f := ⟨_, rfl⟩
  obtain ⟨sR, hsR⟩ : ∃ f, runO gs rs inp fuel = f := ⟨_, rfl⟩
  obtain ⟨lR, hlR⟩ : ∃ f, runL gs rs inp fuel = f := ⟨_, rfl⟩
  obtain ⟨tR, htR⟩ : ∃ f, runT gs rs inp fuel = f := ⟨_, rfl⟩
  rw [hfR, hsR, hlR, htR]
  have HfR := Lib.hid hfR
  have HsR := Lib.hid hsR
  have HlR := Lib.hid hlR
  have HtR := Lib.hid htR
  clear hfR hsR hlR htR
  obtain ⟨PE, hPE⟩ : ∃ PE, RunPost w b0 J sR fR lR tR = PE := ⟨_, rfl⟩
  rw [hPE]
  have HPE := Lib.hid hPE
  clear hPE
  obtain ⟨Ai, ci, hiv, hci, hi63, _⟩ := HI.out
  subst hiv
  go_enter Tryz.func95, Tryz.ntmps95
  go_wp2_with fail
  generalize ((w.alloc (.cells #[gv, rv] 43)).alloc (.cells #[.int .i64 0, .int .i64 0, .slice none 0 0, .int .i64 0] 97)).alloc (.cells #[.int .i64 0, .int .i64 0] 24) = W at *
  have hzW : w.heap.size ≤ W.heap.size := by have := HZ.out; omega
  refine (load_any gv rv gs rs W ((HG.out.below HA.out hb0).more (by omega)) ((HR.out.below HA.out hb0).more (by omega)) HGo.out HRo.out (HT.out.own HA.out)).mono ?_
  rintro e w1 ⟨cv, rfl, hco, hb1⟩
  have hz1 : w.heap.size + 3 ≤ w1.heap.size := by have := hb1.size; have := HZ.out; omega
  have HN1 := Lib.hid ((HN.out.next hb1 HZ.out (by omega) HJ.out).next (wy := w1.alloc (.cells #[.int .i64 (machF gs rs).1, .int .i64 (machF gs rs).2] 24)) ((Below.refl w1.heap.size w1).alloc (Nat.le_refl _) _) hz1 (by omega) HJ.out)
  have HF1 := Lib.hid (Blk.new w1 24 #[.int .i64 (machF gs rs).1, .int .i64 (machF gs rs).2])
  have HCo : Hid (CodesHi (w1.alloc (.cells #[.int .i64 (machF gs rs).1, .int .i64 (machF gs rs).2] 24)) W.heap.size w1.heap.size cv (machL gs rs)) := Lib.hid (hco.hi.below ((Below.refl _ _).alloc (Nat.le_refl _) _))
  have HB1 := Lib.hid (HA.out.trans (hb1.mono hzW))
  have p0 := HF1.out.cell 0
  have p1 := HF1.out.cell 1
  clear hb1 hco HN HA
  have r0 := HN1.out.res.cell 0
  have r1 := HN1.out.res.cell 1
  have r2 := HN1.out.res.cell 2
  have r3 := HN1.out.res.cell 3
  have k0 := HN1.out.flt.cell 0
  have k1 := HN1.out.flt.cell 1
  have rf0 := HN1.out.res.frozen 0
  have rf1 := HN1.out.res.frozen 1
  have rf2 := HN1.out.res.frozen 2
  have rf3 := HN1.out.res.frozen 3
  have kf0 := HN1.out.flt.frozen 0
  have kf1 := HN1.out.flt.frozen 1
  have hz2 : w1.heap.size < (w1.alloc (.cells #[.int .i64 (machF gs rs).1, .int .i64 (machF gs rs).2] 24)).heap.size := by simp
  have Hz2 := Lib.hid hz2
  clear hz2
  obtain ⟨Ac, cc, hcv, _⟩ := HCo.out
  subst hcv
  go_upto_region 2 with fail
  generalize w1.alloc (.cells #[.int .i64 (machF gs rs).1, .int .i64 (machF gs rs).2] 24) = W1 at *
  by_cases hf : (machF gs rs).1 = 0
  · have hfb : ((machF gs rs).1 != 0) = false := by simp [hf]
    have Hf := Lib.hid hf
    clear hf
    by_cases hfu : fuel < 0 ∨ 900000 < fuel
    · have Hfu := Lib.hid hfu
      rcases hfu with hfu | hfu
      all_goals
        go_wp2_with fail
        have hE : fR = (3, -1) := by rw [← HfR.out]; unfold runF; rw [if_neg (by rw [Hf.out]; simp), if_pos Hfu.out]
        obtain ⟨e1, e2, e3⟩ := run_bad (HfR.out.trans hE) (by decide)
        rw [HsR.out] at e1
        rw [HlR.out] at e2
        rw [HtR.out] at e3
        have hend := HN1.out.end_ (.int .i64 0) (.int .i64 0) (.slice none 0 0) (.int .i64 0) (.int .i64 3) (.int .i64 (-1))
        refine end_tmp_cells rfl rfl rfl hend.1 hend.2.1 Tryz.underlying97 rfl Tryz.underlying24 rfl (by kernel_rfl) (by kernel_rfl) rfl ?_
        rw [← HPE.out, e1, e2, e3, hE]
        exact run_fault HN1.out (hend.2.2.mono (by omega)) hb0 HJ.out rfl _
    · have Hfu := Lib.hid hfu
      have hfu0 : 0 ≤ fuel := by omega
      have hfu1 : fuel ≤ 900000 := by omega
      clear hfu
      by_cases h30 : 30 < inp.length
      · have H30 := Lib.hid h30
        go_wp2_with fail
        have hE : fR = (2, -1) := by rw [← HfR.out]; unfold runF; rw [if_neg (by rw [Hf.out]; simp), if_neg Hfu.out, if_pos H30.out]
        obtain ⟨e1, e2, e3⟩ := run_bad (HfR.out.trans hE) (by decide)
        rw [HsR.out] at e1
        rw [HlR.out] at e2
        rw [HtR.out] at e3
        have hend := HN1.out.end_ (.int .i64 0) (.int .i64 0) (.slice none 0 0) (.int .i64 0) (.int .i64 2) (.int .i64 (-1))
        refine end_tmp_cells rfl rfl rfl hend.1 hend.2.1 Tryz.underlying97 rfl Tryz.underlying24 rfl (by kernel_rfl) (by kernel_rfl) rfl ?_
        rw [← HPE.out, e1, e2, e3, hE]
        exact run_fault HN1.out (hend.2.2.mono (by omega)) hb0 HJ.out rfl _
      · have h30' : inp.length ≤ 30 := by omega
        have hE : fR = (0, 0) := by rw [← HfR.out]; unfold runF; rw [if_neg (by rw [Hf.out]; simp), if_neg Hfu.out, if_neg h30]
        have HE := Lib.hid hE
        have hd1 : decide (fuel < 0) = false := by simp; omega
        have hd2 : decide (900000 < fuel) = false := by simp; omega
        have hd3 : decide (30 < (inp.length : Int)) = false := by simp; omega
        clear h30 hE
        go_upto_region 9 with fail
        clear hd1 hd2 hd3
        have HMx : Hid (MachIs (((W1.alloc (.cells Tryz.zeroCells193 193)).alloc (.cells #[.pointer (some ⟨W1.heap.size, 0, none⟩)] 190)).alloc
          (.cells #[.slice Ac (machL gs rs).length cc, .int .i64 0, .int .i64 0, .int .i64 0, .int .i64 0, .int .i64 0, .int .i64 0, .int .i64 0, .int .i64 0, .int .i64 0, .int .i64 0, .int .i64 0, .int .i64 0, .int .i64 0, .int .i64 0, .int .i64 0, .int .i64 0, .slice none 0 0,
            .slice (some ⟨W1.heap.size + 1, 0, none⟩) 1 1, .slice Ai inp.length ci, .int .i64 0, .int .i64 0, .slice none 0 0, .int .i64 0, .bool false] 197)) W1.heap.size (W1.heap.size + 1 + 1) (machL gs rs) (startS [] inp)) :=
          Lib.hid (mach_new (HCo.out.to.more (Nat.le_of_lt Hz2.out)) ((HI.out.below HN1.out.below (Nat.le_refl _)).more (by have := Hz2.out; omega)))
        have hBx : Below W1.heap.size W1 (((W1.alloc (.cells Tryz.zeroCells193 193)).alloc (.cells #[.pointer (some ⟨W1.heap.size, 0, none⟩)] 190)).alloc
          (.cells #[.slice Ac (machL gs rs).length cc, .int .i64 0, .int .i64 0, .int .i64 0, .int .i64 0, .int .i64 0, .int .i64 0, .int .i64 0, .int .i64 0, .int .i64 0, .int .i64 0, .int .i64 0, .int .i64 0, .int .i64 0, .int .i64 0, .int .i64 0, .int .i64 0, .slice none 0 0,
            .slice (some ⟨W1.heap.size + 1, 0, none⟩) 1 1, .slice Ai inp.length ci, .int .i64 0, .int .i64 0, .slice none 0 0, .int .i64 0, .bool false] 197)) := (((Below.refl _ _).alloc (Nat.le_refl _) _).alloc (by simp) _).alloc (by simp; omega) _
        have HN2 := Lib.hid (HN1.out.next hBx (by have := Hz2.out; omega) (by have := Hz2.out; omega) HJ.out)
        have HCo2 := Lib.hid (HCo.out.below (hBx.mono (Nat.le_of_lt Hz2.out)))
        clear p0 p1 r0 r1 r2 r3 k0 k1 rf0 rf1 rf2 rf3 kf0 kf1 hBx HN1 HCo HF1
        have Hbase : Hid (w.heap.size + 3 ≤ W1.heap.size) := Lib.hid (by have := Hz2.out; omega)
        generalize (((W1.alloc (.cells Tryz.zeroCells193 193)).alloc (.cells #[.pointer (some ⟨W1.heap.size, 0, none⟩)] 190)).alloc
          (.cells #[.slice Ac (machL gs rs).length cc, .int .i64 0, .int .i64 0, .int .i64 0, .int .i64 0, .int .i64 0, .int .i64 0, .int .i64 0, .int .i64 0, .int .i64 0, .int .i64 0, .int .i64 0, .int .i64 0, .int .i64 0, .int .i64 0, .int .i64 0, .int .i64 0, .slice none 0 0,
            .slice (some ⟨W1.heap.size + 1, 0, none⟩) 1 1, .slice Ai inp.length ci, .int .i64 0, .int .i64 0, .slice none 0 0, .int .i64 0, .bool false] 197)) = W2 at *
        have Hbw : Hid (w1.heap.size ≤ W1.heap.size) := Lib.hid (Nat.le_of_lt Hz2.out)
        generalize hbs : W1.heap.size = base at *
        clear hbs
        have i0 := HN2.out.img.cell 0
        obtain ⟨Ag, cg, hgv, hgc, hg63, _⟩ := HG.out
        subst hgv
        obtain ⟨gl, hgl⟩ : ∃ gl, gs.length = gl := ⟨_, rfl⟩
        have HLg := Lib.hid hgl
        rw [hgl] at hgc i0 HG HN2
        clear hgl
        have Hgood := Lib.hid (glob_good (machF_zero Hf.out).1)
        go_wp2_with fail
        generalize Value.agg #[.slice Ac (machL gs rs).length cc, .int .i64 0, .int .i64 0, .int .i64 0, .int .i64 0, .int .i64 0, .int .i64 0, .int .i64 0, .int .i64 0, .int .i64 0, .int .i64 0, .int .i64 0, .int .i64 0, .int .i64 0, .int .i64 0, .int .i64 0, .int .i64 0, .slice none 0 0,
            .slice (some ⟨base + 1, 0, none⟩) 1 1, .slice Ai inp.length ci, .int .i64 0, .int .i64 0, .slice none 0 0, .int .i64 0, .bool false] = x47
        generalize Value.agg Tryz.zeroCells193 = x44
        generalize Value.tuple #[.slice Ac (machL gs rs).length cc, .agg #[.int .i64 (machF gs rs).1, .int .i64 (machF gs rs).2]] = x16
        generalize Value.agg #[.int .i64 (machF gs rs).1, .int .i64 (machF gs rs).2] = x20
        generalize Value.agg #[.slice Ag gl cg, rv] = x17
        generalize hag : Value.agg #[.slice Ag gs.length cg, rv] = x0
        clear hag
        generalize Value.slice (some ⟨base + 1, 0, none⟩) 1 1 = x46
        generalize Value.int .i64 (machF gs rs).1 = x23
        go_loopw [52] (fun i wr => ∃ k : Nat, k ≤ gl ∧ i = .int .i64 k ∧ Hid (MachIs wr base (base + 1 + 1) (machL gs rs) (startS (memS (gs.take k)) inp)) ∧ Hid (RunNow w b0 w.heap.size (.slice Ag gl cg) rv J [] wr) ∧ Hid (CodesHi wr W.heap.size w1.heap.size (.slice Ac (machL gs rs).length cc) (machL gs rs))) (fun i _ => gl - (intOf i).toNat)
        case atStart => exact ⟨0, Nat.zero_le _, rfl, HMx, HN2, HCo2⟩
        case round =>
          obtain ⟨k, hk, rfl, HMk, HNk, HCk⟩ := hrel
          clear i0 HMx HN2 HCo2
          by_cases hlt : k < gl
          · obtain ⟨A', c', e, _, _, h3⟩ := HG.out
            obtain ⟨bg, og, hA, hbg, hcell⟩ := h3 (by rw [HLg.out]; omega)
            obtain rfl : A' = Ag := ((Value.slice.inj e).1).symm
            clear e
            subst hA
            obtain ⟨⟨gn, gz, gi⟩, hgk⟩ : ∃ g, gs[k]? = some g := ⟨gs[k]'(by rw [HLg.out]; exact hlt), List.getElem?_eq_getElem _⟩
            obtain ⟨gvi, c0, c1, c2, hii⟩ := hcell k _ hgk
            have c0 := (bcell HNk.out.below hbg).trans c0
            have c1 := (bcell HNk.out.below hbg).trans c1
            have c2 := (bcell HNk.out.below hbg).trans c2
            have hii := (hii.below HNk.out.below (Nat.le_refl _))
            simp only at c0 c1 c2 hii
            have Hii := Lib.hid hii
            obtain ⟨Ax, cx, hx, hx1, hx2, _⟩ := hii
            subst hx
            obtain ⟨q1, q2, q3, q4⟩ := Hgood.out.2 k _ hgk
            simp only at q1 q2 q3 q4
            have Hgk := Lib.hid hgk
            clear hgk hcell h3
            obtain ⟨zn, rfl⟩ := Int.eq_ofNat_of_zero_le (show 0 ≤ gz by omega)
            obtain ⟨il, hil⟩ : ∃ il, gi.length = il := ⟨_, rfl⟩
            obtain ⟨mn, hmn⟩ : ∃ mn, zn - il = mn := ⟨_, rfl⟩
            have Hil := Lib.hid hil
            have Hmn := Lib.hid hmn
            rw [hil] at q3 hx1 c2 Hii
            have hsub : (zn : Int) - (il : Int) = (mn : Int) := by omega
            have Hsum := Lib.hid (memS_len (machF_zero Hf.out).1 k (by rw [HLg.out]; omega))
            clear hil hmn q4
            go_upto_region 12 with fail
            have hA3 : Below wr.heap.size wr (wr.alloc (.cells #[.string gn, .int .i64 (zn : Int), .slice Ax il cx] 79)) := (Below.refl _ _).alloc (Nat.le_refl _) _
            have HK3 := Lib.hid (Blk.new wr 79 #[.string gn, .int .i64 (zn : Int), .slice Ax il cx])
            have HM3 := Lib.hid (HMk.out.below hA3)
            have hzr : base + 1 + 1 < wr.heap.size := by obtain ⟨_, _, _, _, _, _, _, h, _⟩ := HMk.out; exact h.lt
            have HN3 := Lib.hid (HNk.out.next hA3 (by have := Hbase.out; omega) (by have := Hbase.out; omega) HJ.out)
            have HC3 := Lib.hid (HCk.out.below (hA3.mono (by have := Hbw.out; omega)))
            have HI3 := Lib.hid (Hii.out.below (hA3.mono (show b0 ≤ wr.heap.size by have := Hbase.out; omega)) (Nat.le_refl _))
            clear hA3 HMk HNk HCk Hii c0 c1 c2
            generalize wr.alloc (.cells #[.string gn, .int .i64 (zn : Int), .slice Ax il cx] 79) = W3 at *
            generalize wr.heap.size = gh at *
            obtain ⟨hgb, cv3, mv3, lv3, iv3, ov3, ps3, h3⟩ := HM3.out
            obtain ⟨Am, cm, hmv⟩ := row_form h3.2.hmem
            subst hmv
            obtain ⟨n0, hn0⟩ : ∃ n0, (startS (memS (gs.take k)) inp).mem.length = n0 := ⟨_, rfl⟩
            have HO3 : Hid (W3.ownsRow base 3 1 (.slice Am n0 cm) n0 (intV (memS (gs.take k)))) := Lib.hid (by have := h3.2.hmem; rw [← hn0]; exact this)
            rw [hn0] at h3
            have Hn0 : Hid ((memS (gs.take k)).length = n0) := Lib.hid hn0
            have hn200 : n0 ≤ 200 := by have h1 := Hsum.out; have h2 := Hn0.out; omega
            have c17 : W3.cell? ⟨base + 1 + 1, 17, none⟩ = some (.slice Am n0 cm) := (h3.1.cell 17).trans (mach_tail (by simp [startS]) 0)
            have H3 := Lib.hid h3
            have g0 := HK3.out.cell 0
            have g1 := HK3.out.cell 1
            have g2 := HK3.out.cell 2
            clear h3 hn0
            have hwm : IntKind.i64.wrap (mn : Int) = (mn : Int) := by rw [IntKind.wrap_i64]; omega
            have HL6 : Hid (n0 + il + mn = (memS (gs.take k) ++ gi ++ List.replicate mn 0).length) := Lib.hid (by rw [List.length_append, List.length_append, List.length_replicate, Hn0.out, Hil.out])
            have HV6 : Hid (intV (memS (gs.take k)) ++ intV gi ++ List.replicate mn (Value.int .i64 0) = intV (memS (gs.take k) ++ gi ++ List.replicate mn 0)) := Lib.hid (by rw [intV_app, intV_rep, intV_app])
            have HReg : Hid ((startS (memS (gs.take k)) inp).regs.length = 16) := Lib.hid (by simp [startS])
            have HSrc : Hid (0 < il → ∃ ad, Ax = some ad ∧ ∀ j u, (intV gi)[j]? = some u → W3.drew.cell? (ad.add j) = some u) := Lib.hid (ints_src (w := W3) HI3.out)
            have HLen : Hid ((intV gi).length = il * 1) := Lib.hid (by rw [intV_len, Hil.out, Nat.mul_one])
            have HSz : Hid (base ≤ W3.drew.heap.size) := Lib.hid (by have := H3.out.1.lt; show base ≤ W3.heap.size; omega)
            have HSm : Hid (n0 + il ≤ 4000000000) := Lib.hid (by omega)
            have HL5 : Hid (n0 + il = (memS (gs.take k) ++ gi).length) := Lib.hid (by rw [List.length_append, Hn0.out, Hil.out])
            have HP3 := Lib.hid (pair_below hgb H3.out (below_drew1 (Below.refl W3.heap.size W3)))
            obtain ⟨B5, c5, w5, hr5, ap5⟩ := run_app_src (P := Tryz.prog) (w := W3.drew) 29 29 3 (.int .i64 0) 1 8 Tryz.underlying29 infoInt rfl (by decide) (by decide) base (.slice Am n0 cm) n0 (intV (memS (gs.take k))) (World.ownsRow.drew HO3.out) Ax il cx (intV gi) HLen.out HSrc.out (intV_one _) HSm.out HSz.out
            have HK5 := Lib.hid (ap5.blk (World.ownsRow.drew HO3.out) (show Blk (World.drew W3) gh _ _ from HK3.out) (by decide))
            have HP5 := Lib.hid (MRest.grow (mem' := memS (gs.take k) ++ gi) HP3.out rfl HL5.out (intV_app _ _) ap5)
            obtain ⟨B6, c6, w6, hr6, ap6⟩ := run_app_made (P := Tryz.prog) (w := w5) 29 3 29 3 .i64 .i64 (.int .i64 0) 8 Tryz.underlying29 Tryz.underlying3 infoInt rfl rfl (by decide) base (.slice B5 (n0 + il) c5) (n0 + il) (intV (memS (gs.take k)) ++ intV gi) ap5.own mn (by omega) (by have := HP5.out.1.lt; omega)
            have HK6 := Lib.hid (ap6.blk ap5.own HK5.out (by decide))
            have HP6 := Lib.hid (MRest.grow (mem' := memS (gs.take k) ++ gi ++ List.replicate mn 0) HP5.out rfl HL6.out HV6.out ap6)
            have HB6 := Lib.hid (ap5.below.trans ap6.below)
            have Hr5 := Lib.hid hr5
            have Hr6 := Lib.hid hr6
            have HF : Hid (∀ w', w' = W3.drew ∨ w' = w5 ∨ w' = w6 → w'.cell? ⟨gh, 1, none⟩ = some (.int .i64 (zn : Int)) ∧ w'.cell? ⟨gh, 2, none⟩ = some (.slice Ax il cx) ∧ w'.cell? ⟨base + 1 + 1, 17, none⟩ = some (.slice Am n0 cm)) := Lib.hid (by
              rintro w' (rfl | rfl | rfl)
              · exact ⟨HK3.out.cell 1, HK3.out.cell 2, (HP3.out.1.cell 17).trans (mach_tail HReg.out 0)⟩
              · exact ⟨HK5.out.cell 1, HK5.out.cell 2, (HP5.out.1.cell 17).trans (mach_tail HReg.out 0)⟩
              · exact ⟨HK6.out.cell 1, HK6.out.cell 2, (HP6.out.1.cell 17).trans (mach_tail HReg.out 0)⟩)
            have e17 := (HP6.out.1.cell 17).trans (mach_tail HReg.out 0)
            simp only [List.getElem?_cons_zero] at e17
            have ef17 := HP6.out.1.frozen 17
            clear hr5 hr6 ap5 ap6 c17 g0 g1 g2
            refine wp_region_lex (Three W3.drew w5 w6 (w6.setCell ⟨base + 1 + 1, 17, none⟩ (.slice B6 (n0 + il + mn) c6)) 7 14 17 15) (by kernel_rfl) (by kernel_rfl) Three.start ?_
            iterate 7
              apply wpLex_step
              · rfl
              · intro L w' hC hL hd
                clear hd
                have F := HF.out w' (hC.pend hL (by decide))
                have HC := Lib.hid hC
                clear hC
                go_simp
                exact ⟨HC.out.keep _ (by decide) (by decide) (by decide), rfl⟩
              simp only [Act.put, List.setIfInBounds_toArray, List.set_cons_succ, List.set_cons_zero, Nat.reduceAdd]
            apply wpLex_step
            · rfl
            · intro L w' hC hL hd
              obtain ⟨rfl, hC2⟩ := hC.at1 hL (by decide) (by decide) (by decide)
              rw [exec_app (.tmp 60) (.tmp 62) 29 29 rfl _ _ _ _ rfl rfl Hr5.out]
              exact ⟨hC2, rfl⟩
            simp only [Act.put, List.setIfInBounds_toArray, List.set_cons_succ, List.set_cons_zero, Nat.reduceAdd]
            iterate 6
              apply wpLex_step
              · rfl
              · intro L w' hC hL hd
                clear hd
                have F := HF.out w' (hC.pend hL (by decide))
                have HC := Lib.hid hC
                clear hC
                go_simp
                exact ⟨HC.out.keep _ (by decide) (by decide) (by decide), rfl⟩
              simp only [Act.put, List.setIfInBounds_toArray, List.set_cons_succ, List.set_cons_zero, Nat.reduceAdd]
            apply wpLex_step
            · rfl
            · intro L w' hC hL hd
              obtain ⟨rfl, hC2⟩ := hC.at2 hL (hd ⟨7, .data⟩ (by simp) rfl) (by decide) (by decide)
              rw [exec_app (.tmp 63) (.tmp 69) 29 3 rfl _ _ _ _ rfl rfl Hr6.out]
              exact ⟨hC2, rfl⟩
            simp only [Act.put, List.setIfInBounds_toArray, List.set_cons_succ, List.set_cons_zero, Nat.reduceAdd]
            iterate 2
              apply wpLex_step
              · rfl
              · intro L w' hC hL hd
                clear hd
                have HC := Lib.hid hC
                clear hC
                go_simp
                exact ⟨HC.out.keep _ (by decide) (by decide) (by decide), rfl⟩
              simp only [Act.put, List.setIfInBounds_toArray, List.set_cons_succ, List.set_cons_zero, Nat.reduceAdd]
            apply wpLex_step
            · rfl
            · intro L w' hC hL hd
              obtain ⟨hw, hC2⟩ := hC.at3 hL (cover (m := 15) (by kernel_rfl) hd) (by decide) (by decide)
              subst hw
              have HC2 := Lib.hid hC2
              clear hd hC hL hC2
              go_simp
              exact ⟨HC2.out, rfl⟩
            simp only [Act.put, Nat.reduceAdd]
            apply wpLex_nil
            intro L w' hC hd
            obtain rfl := hC.end_ (hd 17 (by decide))
            clear hC hd
            go_wp2_with fail
            go_roundw
            case rel =>
              have hm : memS (gs.take (k + 1)) = memS (gs.take k) ++ gi ++ List.replicate mn 0 := by
                rw [memS_snoc _ _ _ Hgk.out, List.append_assoc]
                unfold wordsG
                rw [show (zn : Int).toNat - gi.length = mn by rw [Hil.out]; exact Hmn.out]
              have hB7 : Below base W3 (w6.setCell ⟨base + 1 + 1, 17, none⟩ (.slice B6 (n0 + il + mn) c6)) := (Below.trans (below_drew1 (Below.refl base W3)) HB6.out).setCell hgb _
              refine ⟨k + 1, by omega, by go_num, Lib.hid ?_, Lib.hid (HN3.out.next hB7 (by have := Hbase.out; omega) (by have := Hbase.out; omega) HJ.out), Lib.hid (HC3.out.below (hB7.mono Hbw.out))⟩
              rw [hm]
              exact mk_is hgb (mset HP6.out hgb (mach_set_mem _ HReg.out)) rfl rfl rfl rfl
            case measure => simp [intOf]; omega
          · obtain rfl : k = gl := by omega
            have HM0 : Hid (MachIs wr base (base + 1 + 1) (machL gs rs) (runS (machL gs rs) (beginS gs inp) 0)) := Lib.hid (by have := HMk.out; rw [List.take_of_length_le (by rw [HLg.out]; exact Nat.le_refl _)] at this; exact this)
            obtain ⟨fn, rfl⟩ := Int.eq_ofNat_of_zero_le hfu0
            have hcs : machL gs rs = imgCodes rs := by unfold machL; rw [if_pos Hf.out]
            have HGc : Hid (GoodC (machL gs rs)) := Lib.hid (by rw [hcs]; exact goodC_of HRo.out Hf.out)
            have HGs : Hid (GoodS (machL gs rs) (beginS gs inp)) := Lib.hid (by rw [hcs]; exact good_begin HRo.out Hf.out h30')
            obtain ⟨e1, e2, e3⟩ := run_fine (HfR.out.trans HE.out)
            rw [HsR.out, ← hcs] at e1
            rw [HlR.out, ← hcs] at e2
            rw [HtR.out, ← hcs] at e3
            have E1 := Lib.hid e1
            have E2 := Lib.hid e2
            have E3 := Lib.hid e3
            have HLc : Hid ((machL gs rs).length < 5000) := Lib.hid (by rw [hcs]; have := (machF_zero Hf.out).2.2.1; unfold imgCodes; rw [List.length_map]; omega)
            clear hcs e1 e2 e3 HMk
            go_wp2_with fail
            generalize hcss : machL gs rs = css at *
            clear hcss
            generalize hs0 : beginS gs inp = s0 at *
            have Hs0 : Hid (s0.steps = 0) := Lib.hid (by rw [← hs0]; rfl)
            clear hs0
            go_loopg [] fn (goRel css s0 fn w b0 w.heap.size (.slice Ag k cg) rv J base W.heap.size w1.heap.size (.slice Ac css.length cc))
            case atStart => exact ⟨0, by omega, HM0, Hs0, HNk, HCk⟩
            case round =>
              obtain ⟨j, hj, HMj, HSj, HNj, HCj⟩ := hrel
              obtain ⟨sj, hsj⟩ : ∃ sj, runS css s0 j = sj := ⟨_, rfl⟩
              have HGj := Lib.hid (good_run HGc.out HGs.out j)
              have Hsj := Lib.hid hsj
              rw [hsj] at HMj HSj HGj
              clear hsj HM0 HNk HCk
              obtain ⟨hgb, cvj, mvj, lvj, ivj, ovj, psj, hmj⟩ := HMj.out
              obtain ⟨Aoj, coj, hovj⟩ := row_form hmj.2.hout
              subst hovj
              have d24 : wr.cell? ⟨base + 1 + 1, 24, none⟩ = some (.bool sj.over) := (hmj.1.cell 24).trans (mach_tail HGj.out.regs 7)
              have d23 : wr.cell? ⟨base + 1 + 1, 23, none⟩ = some (.int .i64 (j : Int)) := by rw [← HSj.out]; exact (hmj.1.cell 23).trans (mach_tail HGj.out.regs 6)
              have d20 : wr.cell? ⟨base + 1 + 1, 20, none⟩ = some (.int .i64 sj.state) := (hmj.1.cell 20).trans (mach_tail HGj.out.regs 3)
              have d21 : wr.cell? ⟨base + 1 + 1, 21, none⟩ = some (.int .i64 sj.value) := (hmj.1.cell 21).trans (mach_tail HGj.out.regs 4)
              have d22 : wr.cell? ⟨base + 1 + 1, 22, none⟩ = some (.slice Aoj sj.out.length coj) := (hmj.1.cell 22).trans (mach_tail HGj.out.regs 5)
              have df20 := hmj.1.frozen 20
              have HPj := Lib.hid hmj
              obtain ⟨ob, hob⟩ : ∃ ob, sj.over = ob := ⟨_, rfl⟩
              have HOb := Lib.hid hob
              rw [hob] at d24
              clear hmj hob
              cases ob
              · by_cases hlt : j < fn
                · go_wp2_with fail
                  refine (step_any wr base (base + 1 + 1) css sj HMj.out HGc.out HGj.out HOb.out (by have := HSj.out; omega)).mono ?_
                  rintro e w2 ⟨rfl, hm2, hb2⟩
                  have HM2 := Lib.hid hm2
                  have HN2 := Lib.hid (HNj.out.next hb2 (by have := Hbase.out; omega) (by have := Hbase.out; omega) HJ.out)
                  have HC2 := Lib.hid (HCj.out.below (hb2.mono Hbw.out))
                  have hz2 : w.heap.size ≤ w2.heap.size := by have := hb2.size; have := Hbase.out; have := HPj.out.1.lt; omega
                  clear hm2 hb2 d20 d21 d22 d23 d24 df20
                  go_wp2_with fail
                  have hps := pos_lt HLc.out HGc.out HGj.out HOb.out
                  refine (HF.out sj.pos.1 sj.pos.2 w2 (metS css s0 j) hps.1 hps.2 hz2 HN2.out.kept).mono ?_
                  rintro e w3 ⟨rfl, hk3, hb3, hJ3⟩
                  have ho : (runS css s0 j).over = false := by rw [Hsj.out]; exact HOb.out
                  obtain ⟨e1, e2⟩ := run_succ ho
                  rw [Hsj.out] at e1 e2
                  have E1' := Lib.hid e1
                  have E2' := Lib.hid e2
                  have HM3 := Lib.hid (HM2.out.kept hk3)
                  have HC3 := Lib.hid (HC2.out.kept hk3)
                  have HN3 := Lib.hid (HN2.out.met hk3 hb3 hJ3)
                  have HS3 : Hid ((runS css s0 (j + 1)).steps = j + 1) := Lib.hid (by rw [e1, step_steps HGj.out HOb.out, HSj.out])
                  clear hk3 hb3 hJ3 ho e1 e2
                  go_wp2_with fail
                  go_roundg (fn - (j + 1))
                  case measure => omega
                  case rel => exact ⟨j + 1, by omega, by rw [E1'.out]; exact HM3, HS3, by rw [E2'.out]; exact HN3, HC3⟩
                · obtain rfl : j = fn := by omega
                  go_upto_region 18 with fail
                  have H2 := Lib.hid (mset HPj.out hgb (mach_set_state 1 HGj.out.regs))
                  have hB2 : Below base wr (wr.setCell ⟨base + 1 + 1, 20, none⟩ (.int .i64 1)) := (Below.refl _ _).setCell hgb _
                  have HN2 := Lib.hid (HNj.out.next hB2 (by have := Hbase.out; omega) (by have := Hbase.out; omega) HJ.out)
                  have HC2 := Lib.hid (HCj.out.below (hB2.mono Hbw.out))
                  clear hB2 d20 d21 d22 d23 d24 df20
                  generalize wr.setCell ⟨base + 1 + 1, 20, none⟩ (.int .i64 1) = w2 at *
                  have d23 : w2.cell? ⟨base + 1 + 1, 23, none⟩ = some (.int .i64 (j : Int)) := by rw [← HSj.out]; exact (H2.out.1.cell 23).trans (mach_tail (s := { sj with state := 1 }) HGj.out.regs 6)
                  have d20 : w2.cell? ⟨base + 1 + 1, 20, none⟩ = some (.int .i64 1) := (H2.out.1.cell 20).trans (mach_tail (s := { sj with state := 1 }) HGj.out.regs 3)
                  have d21 : w2.cell? ⟨base + 1 + 1, 21, none⟩ = some (.int .i64 sj.value) := (H2.out.1.cell 21).trans (mach_tail (s := { sj with state := 1 }) HGj.out.regs 4)
                  have d22 : w2.cell? ⟨base + 1 + 1, 22, none⟩ = some (.slice Aoj sj.out.length coj) := (H2.out.1.cell 22).trans (mach_tail (s := { sj with state := 1 }) HGj.out.regs 5)
                  have q0 := HN2.out.res.cell 0
                  have q1 := HN2.out.res.cell 1
                  have q2 := HN2.out.res.cell 2
                  have q3 := HN2.out.res.cell 3
                  have qf0 := HN2.out.res.frozen 0
                  have qf1 := HN2.out.res.frozen 1
                  have qf2 := HN2.out.res.frozen 2
                  have qf3 := HN2.out.res.frozen 3
                  have t0 := HN2.out.flt.cell 0
                  have t1 := HN2.out.flt.cell 1
                  have tf0 := HN2.out.flt.frozen 0
                  have tf1 := HN2.out.flt.frozen 1
                  go_region
                  all_goals
                    go_wp2_with fail
                    have hS := HSj.out
                    subst hS
                    have hT : sj.told = { sj with state := 1 } := by unfold Mch.told; rw [HOb.out]; rfl
                    have hend := HN2.out.end_ (.int .i64 1) (.int .i64 sj.value) (.slice Aoj sj.out.length coj) (.int .i64 (sj.steps : Int)) (.int .i64 0) (.int .i64 0)
                    refine end_tmp_cells rfl rfl rfl hend.1.drew hend.2.1.drew Tryz.underlying97 rfl Tryz.underlying24 rfl (by kernel_rfl) (by kernel_rfl) rfl ?_
                    rw [← HPE.out, E1.out, E2.out, E3.out, HE.out, Int.toNat_natCast, Hsj.out, hT]
                    exact run_done (s := { sj with state := 1 }) HN2.out HC2.out HZ.out (by have := H2.out.1.lt; have := Hbw.out; omega) H2.out.2.hout rfl (by have := Hbase.out; omega) rfl hb0 HJ.out
              · go_wp2_with fail
                have q0 := HNj.out.res.cell 0
                have q1 := HNj.out.res.cell 1
                have q2 := HNj.out.res.cell 2
                have q3 := HNj.out.res.cell 3
                have qf0 := HNj.out.res.frozen 0
                have qf1 := HNj.out.res.frozen 1
                have qf2 := HNj.out.res.frozen 2
                have qf3 := HNj.out.res.frozen 3
                have t0 := HNj.out.flt.cell 0
                have t1 := HNj.out.flt.cell 1
                have tf0 := HNj.out.flt.frozen 0
                have tf1 := HNj.out.flt.frozen 1
                go_region
                all_goals
                  go_wp2_with fail
                  have hS := HSj.out
                  subst hS
                  have ho : (runS css s0 sj.steps).over = true := by rw [Hsj.out]; exact HOb.out
                  obtain ⟨e1, e2⟩ := run_over ho fn (by omega)
                  have hend := HNj.out.end_ (.int .i64 sj.state) (.int .i64 sj.value) (.slice Aoj sj.out.length coj) (.int .i64 (sj.steps : Int)) (.int .i64 0) (.int .i64 0)
                  refine end_tmp_cells rfl rfl rfl hend.1.drew hend.2.1.drew Tryz.underlying97 rfl Tryz.underlying24 rfl (by kernel_rfl) (by kernel_rfl) rfl ?_
                  rw [← HPE.out, E1.out, E2.out, E3.out, HE.out, Int.toNat_natCast, e1, e2, Hsj.out, show sj.told = sj by unfold Mch.told; rw [HOb.out]; rfl]
                  exact run_done HNj.out HCj.out HZ.out (by have := HPj.out.1.lt; have := Hbw.out; omega) HPj.out.2.hout rfl (by have := Hbase.out; omega) rfl hb0 HJ.out
  · have hfb : ((machF gs rs).1 != 0) = true := by simp [hf]
    have Hf := Lib.hid hf
    clear hf
    go_wp2_with fail
    go_region
    all_goals
      go_wp2_with fail
      have hE : fR = machF gs rs := by rw [← HfR.out]; unfold runF; rw [if_pos Hf.out]
      obtain ⟨e1, e2, e3⟩ := run_bad (HfR.out.trans hE) Hf.out
      rw [HsR.out] at e1
      rw [HlR.out] at e2
      rw [HtR.out] at e3
      have hend := HN1.out.end_ (.int .i64 0) (.int .i64 0) (.slice none 0 0) (.int .i64 0) (.int .i64 (machF gs rs).1) (.int .i64 (machF gs rs).2)
      refine end_tmp_cells rfl rfl rfl hend.1.drew hend.2.1.drew Tryz.underlying97 rfl Tryz.underlying24 rfl (by kernel_rfl) (by kernel_rfl) rfl ?_
      rw [← HPE.out, e1, e2, e3, hE]
      exact run_fault HN1.out (below_drew1 (hend.2.2.mono (by omega))) hb0 HJ.out rfl _
end Go.Proofs.YtdldochhondifaaGreatDoor
namespace Go.Proofs.YtdldochhondifaaGreatDoor
open Go.RowKit

/-- What a run says: its outcome, its fault. -/
def OutPost (w : World) (s : Mch) (f : Int × Int) (e : Ending) (w' : World) : Prop :=
  ∃ ov, e = .returned (.tuple #[.agg #[.int .i64 s.state, .int .i64 s.value, ov, .int .i64 (s.steps : Int)], .agg #[.int .i64 f.1, .int .i64 f.2]]) ∧ w'.ownsRow w.heap.size 3 1 ov s.out.length (intV s.out) ∧ Below w.heap.size w w'
theorem run1_any (r pc : Int) (w : World) : Calls Tryz.prog 96 #[.int .i64 r, .int .i64 pc] w fun e w' => e = .returned (.tuple #[]) ∧ w = w' := by
  go_enter Tryz.func96, Tryz.ntmps96
  go_wp2_with fail
  go_end0
  exact ⟨rfl, rfl⟩
theorem run1_does (w : World) (b0 : Nat) : MetDoes 96 #[] w b0 (fun _ _ => True) := by
  refine ⟨fun a W => MuLone.run_callFunc_enter Tryz.func96 (by kernel_rfl) rfl a W, fun r pc W tr _ _ _ _ => ?_⟩
  refine (run1_any (r : Int) (pc : Int) W).mono ?_
  rintro e w' ⟨rfl, rfl⟩
  exact ⟨rfl, KeepC.refl _, Below.refl _ _, trivial⟩
set_option maxRecDepth 100000 in
set_option maxHeartbeats 2000000 in
theorem Run_any (gv rv iv : Value) (gs : List Glob) (rs : List Rout) (inp : List Int) (fuel : Int) (w : World) (hg : GlobsAt w w.heap.size gv gs) (hr : RoutsAt w w.heap.size rv rs) (hin : IntsAt w w.heap.size iv inp)
    (hgo : GOk gs) (hro : ROk rs) (ht : Tab w) : Calls Tryz.prog 50 #[.agg #[gv, rv], iv, .int .i64 fuel] w (OutPost w (runO gs rs inp fuel) (runF gs rs inp fuel)) := by
  have hA : Below w.heap.size w (((w.alloc (.cells #[gv, rv] 43)).alloc (.cells #[.int .i64 0, .int .i64 0, .slice none 0 0, .int .i64 0] 97)).alloc (.cells #[.int .i64 0, .int .i64 0] 24)) := (((Below.refl _ _).alloc (Nat.le_refl _) _).alloc (by simp) _).alloc (by simp; omega) _
  have HN : Hid (RunNow w w.heap.size w.heap.size gv rv (fun _ _ => True) [] (((w.alloc (.cells #[gv, rv] 43)).alloc (.cells #[.int .i64 0, .int .i64 0, .slice none 0 0, .int .i64 0] 97)).alloc (.cells #[.int .i64 0, .int .i64 0] 24))) := Lib.hid
    ⟨((Blk.new w _ _).alloc _).alloc _, Blk.alloc (by have := Blk.new (w.alloc (.cells #[gv, rv] 43)) 97 #[.int .i64 0, .int .i64 0, .slice none 0 0, .int .i64 0]; simpa using this) _,
      by have := Blk.new ((w.alloc (.cells #[gv, rv] 43)).alloc (.cells #[.int .i64 0, .int .i64 0, .slice none 0 0, .int .i64 0] 97)) 24 #[.int .i64 0, .int .i64 0]; simpa using this, hA, trivial, fun g t cs hg hc => hc.below hA hg⟩
  have HZ : Hid (w.heap.size + 3 ≤ (((w.alloc (.cells #[gv, rv] 43)).alloc (.cells #[.int .i64 0, .int .i64 0, .slice none 0 0, .int .i64 0] 97)).alloc (.cells #[.int .i64 0, .int .i64 0] 24)).heap.size) := Lib.hid (by simp)
  have HCall := Lib.hid (run_any 96 #[] gv rv iv gs rs inp fuel (((w.alloc (.cells #[gv, rv] 43)).alloc (.cells #[.int .i64 0, .int .i64 0, .slice none 0 0, .int .i64 0] 97)).alloc (.cells #[.int .i64 0, .int .i64 0] 24)) w.heap.size (fun _ _ => True)
    (hg.below hA (Nat.le_refl _)) (hr.below hA (Nat.le_refl _)) (hin.below hA (Nat.le_refl _)) hgo hro (ht.own hA) (by have := HZ.out; omega) (fun _ _ _ _ _ => trivial) trivial (run1_does _ _))
  clear hA hg hr hin hgo hro ht
  obtain ⟨fR, hfR⟩ : ∃ f, runF gs rs inp fuel = f := ⟨_, rfl⟩
  obtain ⟨sR, hsR⟩ : ∃ f, runO gs rs inp fuel = f := ⟨_, rfl⟩
  rw [hfR, hsR] at HCall ⊢
  clear hfR hsR
  obtain ⟨f1, f2⟩ := fR
  obtain ⟨PE, hPE⟩ : ∃ PE, OutPost w sR (f1, f2) = PE := ⟨_, rfl⟩
  rw [hPE]
  have HPE := Lib.hid hPE
  clear hPE
  go_enter Tryz.func50, Tryz.ntmps50
  go_wp2_with fail
  generalize ((w.alloc (.cells #[gv, rv] 43)).alloc (.cells #[.int .i64 0, .int .i64 0, .slice none 0 0, .int .i64 0] 97)).alloc (.cells #[.int .i64 0, .int .i64 0] 24) = W at *
  refine HCall.out.mono ?_
  rintro e w1 ⟨v, ov, rfl, _, hov, hb1, _, hkeep⟩
  obtain ⟨Ao, co, rfl⟩ := row_form hov
  obtain ⟨n, hn⟩ : ∃ n, sR.out.length = n := ⟨_, rfl⟩
  have Hn := Lib.hid hn
  rw [hn] at hov
  have HO := Lib.hid hov
  have hzW := HZ.out
  have hA2 : Below w1.heap.size w1 ((w1.alloc (.cells #[.int .i64 sR.state, .int .i64 sR.value, .slice Ao n co, .int .i64 (sR.steps : Int)] 97)).alloc (.cells #[.int .i64 f1, .int .i64 f2] 24)) := ((Below.refl _ _).alloc (Nat.le_refl _) _).alloc (by simp) _
  have hz1 : W.heap.size ≤ w1.heap.size := hb1.size
  have HN2 : Hid (RunNow w w.heap.size w.heap.size gv rv (fun _ _ => True) [] ((w1.alloc (.cells #[.int .i64 sR.state, .int .i64 sR.value, .slice Ao n co, .int .i64 (sR.steps : Int)] 97)).alloc (.cells #[.int .i64 f1, .int .i64 f2] 24))) := Lib.hid
    ⟨(hkeep _ _ _ HN.out.img).below hA2 (by omega), (hkeep _ _ _ HN.out.res).below hA2 (by omega), (hkeep _ _ _ HN.out.flt).below hA2 (by omega), HN.out.below.trans (hb1.trans (hA2.mono (by omega))), trivial, fun g t cs hg hc => ((hc.below HN.out.below hg).below hb1 hg).below hA2 (by omega)⟩
  have HK9 := Lib.hid ((Blk.new w1 97 #[.int .i64 sR.state, .int .i64 sR.value, .slice Ao n co, .int .i64 (sR.steps : Int)]).alloc (.cells #[.int .i64 f1, .int .i64 f2] 24))
  have HK10 : Hid (Blk ((w1.alloc (.cells #[.int .i64 sR.state, .int .i64 sR.value, .slice Ao n co, .int .i64 (sR.steps : Int)] 97)).alloc (.cells #[.int .i64 f1, .int .i64 f2] 24)) (w1.heap.size + 1) 24 #[.int .i64 f1, .int .i64 f2]) := Lib.hid (by
    have := Blk.new (w1.alloc (.cells #[.int .i64 sR.state, .int .i64 sR.value, .slice Ao n co, .int .i64 (sR.steps : Int)] 97)) 24 #[.int .i64 f1, .int .i64 f2]
    simpa using this)
  have HO2 := Lib.hid (row_lt HO.out hA2)
  clear hkeep hov hb1 hA2 hn HN HCall
  go_upto_region 2 with fail
  rw [Hn.out]
  generalize (w1.alloc (.cells #[.int .i64 sR.state, .int .i64 sR.value, .slice Ao n co, .int .i64 (sR.steps : Int)] 97)).alloc (.cells #[.int .i64 f1, .int .i64 f2] 24) = W2 at *
  generalize w1.heap.size = g1 at *
  have a0 := HK9.out.cell 0
  have a1 := HK9.out.cell 1
  have a2 := HK9.out.cell 2
  have a3 := HK9.out.cell 3
  have b0 := HK10.out.cell 0
  have b1 := HK10.out.cell 1
  have r0 := HN2.out.res.cell 0
  have r1 := HN2.out.res.cell 1
  have r2 := HN2.out.res.cell 2
  have r3 := HN2.out.res.cell 3
  have k0 := HN2.out.flt.cell 0
  have k1 := HN2.out.flt.cell 1
  have rf0 := HN2.out.res.frozen 0
  have rf1 := HN2.out.res.frozen 1
  have rf2 := HN2.out.res.frozen 2
  have rf3 := HN2.out.res.frozen 3
  have kf0 := HN2.out.flt.frozen 0
  have kf1 := HN2.out.flt.frozen 1
  go_region
  all_goals
    go_wp2_with fail
    have hend := HN2.out.end_ (.int .i64 sR.state) (.int .i64 sR.value) (.slice Ao n co) (.int .i64 (sR.steps : Int)) (.int .i64 f1) (.int .i64 f2)
    have hrow := HN2.out.row HO2.out (by decide) (by decide) (.int .i64 sR.state) (.int .i64 sR.value) (.slice Ao n co) (.int .i64 (sR.steps : Int)) (.int .i64 f1) (.int .i64 f2)
    refine end_cells rfl rfl rfl hend.1.drew hend.2.1.drew Tryz.underlying97 rfl Tryz.underlying24 rfl (by kernel_rfl) (by kernel_rfl) rfl ?_
    rw [← HPE.out]
    generalize (((((W2.setCell ⟨w.heap.size + 1, 0, none⟩ (.int .i64 sR.state)).setCell ⟨w.heap.size + 1, 1, none⟩ (.int .i64 sR.value)).setCell ⟨w.heap.size + 1, 2, none⟩ (.slice Ao n co)).setCell ⟨w.heap.size + 1, 3, none⟩ (.int .i64 (sR.steps : Int))).setCell ⟨w.heap.size + 1 + 1, 0, none⟩ (.int .i64 f1)).setCell ⟨w.heap.size + 1 + 1, 1, none⟩ (.int .i64 f2) = W6 at *
    exact ⟨_, rfl, row_le (World.ownsRow.drew (Hn.out ▸ hrow)) (Nat.le_trans (Nat.le_add_right _ 3) HZ.out), below_drew1 (HN2.out.below.trans (hend.2.2.mono (by omega)))⟩
end Go.Proofs.YtdldochhondifaaGreatDoor
namespace Go.Proofs.YtdldochhondifaaGreatDoor
open Go.RowKit

theorem numS_bytes : ∀ (n : Nat), BytesOk (numS n) := by
  intro n
  induction n using Nat.strongRecOn with
  | _ n ih =>
    by_cases h : n < 128
    · rw [numS_small n h]
      intro x hx
      rw [List.mem_singleton.1 hx]
      omega
    · rw [numS_big n h]
      intro x hx
      rcases List.mem_cons.1 hx with rfl | hx
      · omega
      · exact ih (n / 128) (by omega) x hx
theorem pack_bytes : ∀ (rs : List Int), (∀ x ∈ rs, 0 ≤ x ∧ x < 16) → BytesOk (packS rs)
  | [], _ => fun x hx => by cases hx
  | [x], h => fun y hy => by
    have := h x (by simp)
    rw [List.mem_singleton.1 hy]
    omega
  | x :: y :: l, h => fun z hz => by
    have hx := h x (by simp)
    have hy := h y (by simp)
    rcases List.mem_cons.1 hz with rfl | hz
    · omega
    · exact pack_bytes l (fun a ha => h a (by simp [ha])) z hz
theorem codeS_bytes {m : Mac} (h : Fine m) : BytesOk (codeS m) := by
  intro x hx
  unfold codeS at hx
  rcases List.mem_cons.1 hx with rfl | hx
  · have := (isOp_iff _).1 h.op
    omega
  · rcases List.mem_append.1 hx with hx | hx
    · exact pack_bytes _ (regs_in m h.regs) x hx
    · split at hx
      · cases hx
      · exact numS_bytes _ x hx
theorem codeL_bytes {ms : List Mac} (h : (checkS ms).1 = 0) (hi : ∀ m ∈ ms, m.ok) : BytesOk (codeL ms) := by
  have hf := (fine_of_check h hi).2
  intro x hx
  unfold codeL at hx
  rw [if_pos h] at hx
  unfold bytesS at hx
  obtain ⟨l, hl, hx⟩ := List.mem_flatten.1 hx
  obtain ⟨m, hm, rfl⟩ := List.mem_map.1 hl
  exact codeS_bytes (hf m hm) x hx
end Go.Proofs.YtdldochhondifaaGreatDoor
namespace Go.Proofs.YtdldochhondifaaGreatDoor
open Go.RowKit

/-- From block lo on, what lay there lies there. -/
def Turn (lo : Nat) (w w' : World) : Prop := ∀ b o x, lo ≤ b → w.cell? ⟨b, o, none⟩ = some x → w'.cell? ⟨b, o, none⟩ = some x
theorem Turn.refl (lo : Nat) (w : World) : Turn lo w w := fun _ _ _ _ h => h
theorem Turn.trans {lo : Nat} {a b c : World} (h : Turn lo a b) (k : Turn lo b c) : Turn lo a c := fun _ _ _ h1 h2 => k _ _ _ h1 (h _ _ _ h1 h2)
theorem Turn.more {lo lo' : Nat} {a b : World} (h : Turn lo a b) (hl : lo ≤ lo') : Turn lo' a b := fun _ _ _ h1 h2 => h _ _ _ (Nat.le_trans hl h1) h2
theorem Turn.low {lo g o : Nat} (w : World) (u : Value) (h : g < lo) : Turn lo w (w.setCell ⟨g, o, none⟩ u) := fun b o' _ h1 hc => (World.cell?_setCell_far w ⟨g, o, none⟩ ⟨b, o', none⟩ u (by show g ≠ b; omega)).trans hc
theorem Turn.grown {lo : Nat} {w w' : World} {row : Option Nat} (h : w.grownBy w' row) (hr : ∀ k, row = some k → k < lo) : Turn lo w w' := fun b o _ h1 hc => by
  have hlt := World.block_lt_of_cell? w ⟨b, o, none⟩ hc
  refine (h.cell_far ⟨b, o, none⟩ hlt ?_).trans hc
  intro e
  have := hr b e.symm
  omega
theorem OwnB.turn {w W : World} {base : Nat} {v : Value} {xs : List Int} (h : OwnB w base v xs) (hW : Turn base w W) : BAt W w.heap.size v xs := by
  obtain ⟨A, c, e, h1, h2, h3⟩ := h.bytes
  refine ⟨A, c, e, h1, h2, fun hl => ?_⟩
  obtain ⟨b, off, e1, e2, e3⟩ := h3 hl
  subst e1
  have hb : base ≤ b := by
    subst e
    rcases h.2 with ⟨h', _⟩ | ⟨g', cap', cur', h', hb, _⟩
    · simp at h'
    · simp only [Value.slice.injEq, Option.some.injEq, Addr.mk.injEq, and_true, true_and] at h'
      obtain ⟨⟨rfl, _⟩, _⟩ := h'
      exact hb
  exact ⟨b, off, rfl, e2, fun k x hk => hW _ _ _ hb (e3 k x hk)⟩
def mainB : ByteArray := ⟨#[109, 97, 105, 110]⟩
theorem rout_one {w : World} {b B : Nat} {n : ByteArray} {cv : Value} {bs : List Int} (hb : b < B) (b0 : w.cell? ⟨b, 0, none⟩ = some (.string n)) (b1 : w.cell? ⟨b, 1, none⟩ = some cv) (hc : BAt w B cv bs) : RoutsAt w B (.slice (some ⟨b, 0, none⟩) 1 1) [⟨n, bs⟩] := by
  refine ⟨_, 1, rfl, by simp, by omega, fun _ => ⟨b, 0, rfl, hb, fun k g hk => ?_⟩⟩
  match k, hk with
  | 0, hk =>
    simp only [List.getElem?_cons_zero, Option.some.injEq] at hk
    subst hk
    exact ⟨cv, b0, b1, hc⟩
  | k + 1, hk => simp at hk
end Go.Proofs.YtdldochhondifaaGreatDoor
namespace Go.Proofs.YtdldochhondifaaGreatDoor
open Go.RowKit

theorem main_name : rNameBad 0 mainB = false := by decide +kernel
section
variable {ms : List Mac} {inp : List Int} {fuel : Nat}
theorem alone_rok (hck : (checkS ms).1 = 0) (hi : ∀ m ∈ ms, m.ok) : ROk [⟨mainB, codeL ms⟩] := by
  intro r hr
  rw [List.mem_singleton.1 hr]
  exact ⟨by show mainB.size ≤ _; decide, codeL_bytes hck hi⟩
theorem alone_codes (hck : (checkS ms).1 = 0) (hi : ∀ m ∈ ms, m.ok) : imgCodes [⟨mainB, codeL ms⟩] = [ms] := by
  unfold imgCodes
  simp only [List.map_cons, List.map_nil]
  rw [read_codeL hck hi]
end
end Go.Proofs.YtdldochhondifaaGreatDoor
namespace Go.Proofs.YtdldochhondifaaGreatDoor
open Go.RowKit

theorem macs_lit {w : World} {b : Nat} {cs : Array Value} {ms : List Mac} {n : Nat} (hb : Blk w b 39 cs) (hcs : cs.toList = cellsS ms) (hn : ms.length = n) (h63 : n ≤ 9223372036854775807) : MacsAt w w.heap.size (.slice (some ⟨b, 0, none⟩) n n) ms := by
  subst hn
  refine macs_of_cells hb (fun j u hu => ?_) (Nat.le_refl _) h63
  rw [Nat.zero_add, ← Array.getElem?_toList, hcs]
  exact hu
end Go.Proofs.YtdldochhondifaaGreatDoor
namespace Go.Proofs.YtdldochhondifaaGreatDoor
open Go.RowKit
end Go.Proofs.YtdldochhondifaaGreatDoor
namespace Go.Proofs.YtdldochhondifaaGreatDoor
open Go.RowKit

def sureC : List Mac := [⟨1, 0, 0, 0, 7⟩, ⟨45, 0, 0, 0, 0⟩]
theorem sure_ok : (checkS sureC).1 = 0 := by decide +kernel
theorem sure_i64 : ∀ m ∈ sureC, m.ok := by
  intro m hm
  simp only [sureC, List.mem_cons, List.not_mem_nil, or_false] at hm
  rcases hm with rfl | rfl
  all_goals exact ⟨by unfold I64; decide, by unfold I64; decide, by unfold I64; decide, by unfold I64; decide, by unfold I64; decide⟩
theorem sure_far : sureC.any (farB 1) = false := by decide +kernel
theorem sure_len : 3 ≤ (codeL sureC).length := by decide +kernel
theorem sure_fine : machF [] [⟨mainB, codeL sureC⟩] = (0, 0) := by
  refine machF_ok (by decide +kernel) (by simp) (by simp) fun j hj => ?_
  obtain rfl : j = 0 := by simpa using hj
  refine rBad_ok (k := 0) main_name (by decide +kernel) ?_ ?_
  · rw [read_codeL sure_ok sure_i64]
  · rw [read_codeL sure_ok sure_i64]
    exact sure_far
theorem sure_run : runF [] [⟨mainB, codeL sureC⟩] [] 2 = (0, 0) ∧ ∃ v, runO [] [⟨mainB, codeL sureC⟩] [] 2 = v ∧ v.state = 0 ∧ v.value = 7 ∧ v.steps = 2 := by
  have h : runF [] [⟨mainB, codeL sureC⟩] [] 2 = (0, 0) := by
    unfold runF
    rw [sure_fine, if_neg (by simp), if_neg (by omega), if_neg (by simp)]
  refine ⟨h, _, rfl, ?_⟩
  rw [(run_fine h).1, alone_codes sure_ok sure_i64]
  have s1 : stepS [sureC] (beginS [] []) = ⟨[7, 0, 0, 0, 0, 0, 0, 0, 0, 0, 0, 0, 0, 0, 0, 0], [], [⟨0, 1, List.replicate 120 0⟩], [], [], 1, 0, 0, false⟩ := by
    simp [stepS, beginS, memS, startS, doS, macAt, sureC, movesS, Mch.set, Mch.begun, Fr.next, List.replicate_succ]
  have h1 := (run_go (codes := [sureC]) (s := beginS [] []) (k := 0) (t := beginS [] []) rfl rfl).trans s1
  have h2 := run_go h1 rfl
  have e : (2 : Int).toNat = 0 + 1 + 1 := rfl
  rw [e, h2]
  simp [stepS, doS, macAt, sureC, speaksS, retS, Mch.begun, Mch.reg, Mch.told]
set_option maxRecDepth 100000 in
set_option maxHeartbeats 2000000 in
theorem Sure_any (w : World) (ht : Tab w) : Calls Tryz.prog 22 #[] w fun e w' => e = .returned (.bool true) ∧ Below w.heap.size w w' := by
  have HT := Lib.hid ht
  have HA : Hid (Below w.heap.size w (w.alloc (.cells (cellsS sureC).toArray 39))) := Lib.hid ((Below.refl _ _).alloc (Nat.le_refl _) _)
  have HW := Lib.hid (macs_lit (n := 2) (Blk.new w 39 (cellsS sureC).toArray) (ms := sureC) rfl rfl (by decide))
  have hcl : (cellsS sureC).toArray = #[.int .i64 1, .int .i64 0, .int .i64 0, .int .i64 0, .int .i64 7, .int .i64 45, .int .i64 0, .int .i64 0, .int .i64 0, .int .i64 0] := rfl
  rw [hcl] at HA HW
  obtain ⟨q1, v, q2, q3, q4, q5⟩ := sure_run
  have HQ1 := Lib.hid q1
  have HQ2 := Lib.hid q2
  have hl := sure_len
  obtain ⟨L, hL⟩ : ∃ L, (codeL sureC).length = L := ⟨_, rfl⟩
  rw [hL] at hl
  have HL := Lib.hid hL
  have HQ : Hid (v.state = 0 ∧ v.value = 7 ∧ v.steps = 2) := Lib.hid ⟨q3, q4, q5⟩
  clear ht hcl q1 q2 q3 q4 q5 hL
  go_enter Tryz.func22, Tryz.ntmps22
  go_wp2_with fail
  generalize w.alloc (.cells #[.int .i64 1, .int .i64 0, .int .i64 0, .int .i64 0, .int .i64 7, .int .i64 45, .int .i64 0, .int .i64 0, .int .i64 0, .int .i64 0] 39) = W at *
  refine (Code_any _ sureC W HW.out (HT.out.own HA.out) sure_i64).mono ?_
  rintro e w1 ⟨bv, rfl, hbv, hb1⟩
  rw [check_zero sure_ok]
  obtain ⟨Ab, cb, hbe, _⟩ := id hbv
  subst hbe
  rw [HL.out] at hbv ⊢
  have HB1 := Lib.hid (HA.out.trans (hb1.mono HA.out.size))
  have hA2 : Below w1.heap.size w1 (w1.alloc (.cells #[.int .i64 0, .int .i64 0] 24)) := (Below.refl _ _).alloc (Nat.le_refl _) _
  have HBv := Lib.hid ((hbv.below hA2 (Nat.le_refl _)).more hA2.size)
  have HB2 := Lib.hid (HB1.out.trans (hA2.mono HB1.out.size))
  have HF2 := Lib.hid (Blk.new w1 24 #[.int .i64 0, .int .i64 0])
  clear hbv hb1 hA2
  go_upto_region 2 with fail
  generalize w1.alloc (.cells #[.int .i64 0, .int .i64 0] 24) = W2 at *
  generalize w1.heap.size = g2 at *
  have f0 := HF2.out.cell 0
  have hA3 : Below W2.heap.size W2 (W2.alloc (.cells #[.string ⟨#[109, 97, 105, 110]⟩, .slice Ab L cb] 76)) := (Below.refl _ _).alloc (Nat.le_refl _) _
  have HB3 := Lib.hid (HB2.out.trans (hA3.mono HB2.out.size))
  have hk3 := Blk.new W2 76 #[.string ⟨#[109, 97, 105, 110]⟩, .slice Ab L cb]
  have HR3 := Lib.hid (rout_one (n := mainB) hk3.lt (hk3.cell 0) (hk3.cell 1) ((HBv.out.below hA3 (Nat.le_refl _)).more hA3.size))
  clear hA3 hk3
  go_wp2_with fail
  generalize W2.alloc (.cells #[.string ⟨#[109, 97, 105, 110]⟩, .slice Ab L cb] 76) = W3 at *
  have hcall := Run_any (.slice none 0 0) _ (.slice none 0 0) [] [⟨mainB, codeL sureC⟩] [] 2 W3 ⟨none, 0, rfl, by simp, by omega, fun h => by simp at h⟩ HR3.out ⟨none, 0, rfl, by simp, by omega, fun h => by simp at h⟩ (fun g hg => by cases hg) (alone_rok sure_ok sure_i64) (HT.out.own HB3.out)
  rw [HQ1.out, HQ2.out] at hcall
  refine hcall.mono ?_
  rintro e w4 ⟨ov, rfl, hov, hb4⟩
  obtain ⟨Ao, co, rfl⟩ := row_form hov
  rw [HQ.out.1, HQ.out.2.1, HQ.out.2.2]
  have HB4 := Lib.hid (HB3.out.trans (hb4.mono HB3.out.size))
  have hA5 : Below w4.heap.size w4 ((w4.alloc (.cells #[.int .i64 0, .int .i64 7, .slice Ao v.out.length co, .int .i64 2] 97)).alloc (.cells #[.int .i64 0, .int .i64 0] 24)) := ((Below.refl _ _).alloc (Nat.le_refl _) _).alloc (by simp) _
  have HB5 := Lib.hid (HB4.out.trans (hA5.mono HB4.out.size))
  have HK5 := Lib.hid ((Blk.new w4 97 #[.int .i64 0, .int .i64 7, .slice Ao v.out.length co, .int .i64 2]).alloc (.cells #[.int .i64 0, .int .i64 0] 24))
  have HK6 : Hid (Blk ((w4.alloc (.cells #[.int .i64 0, .int .i64 7, .slice Ao v.out.length co, .int .i64 2] 97)).alloc (.cells #[.int .i64 0, .int .i64 0] 24)) (w4.heap.size + 1) 24 #[.int .i64 0, .int .i64 0]) := Lib.hid (by
    have := Blk.new (w4.alloc (.cells #[.int .i64 0, .int .i64 7, .slice Ao v.out.length co, .int .i64 2] 97)) 24 #[.int .i64 0, .int .i64 0]
    simpa using this)
  clear hov hb4 hA5 hcall
  go_upto_region 5 with fail
  generalize (w4.alloc (.cells #[.int .i64 0, .int .i64 7, .slice Ao v.out.length co, .int .i64 2] 97)).alloc (.cells #[.int .i64 0, .int .i64 0] 24) = W5 at *
  generalize w4.heap.size = g5 at *
  have a0 := HK5.out.cell 0
  have a1 := HK5.out.cell 1
  have a3 := HK5.out.cell 3
  have b0 := HK6.out.cell 0
  go_wp2_with fail
  go_ret
  exact ⟨rfl, HB5.out⟩
end Go.Proofs.YtdldochhondifaaGreatDoor
