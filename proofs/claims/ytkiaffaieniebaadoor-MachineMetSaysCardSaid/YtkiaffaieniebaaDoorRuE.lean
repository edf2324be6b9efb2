/-
  Contract of the machine's speaks, one theorem an Op.
  Conditions: the machine lies in memory; sixteen registers; the fields in bounds.
-/
import Derived.Test.YtkiaffaieniebaaDoorRuD
import Derived.Deep.RegionHeld3
import Derived.Deep.RegionLaw
import Derived.Deep.DrawnRows
namespace Go.Proofs.YtkiaffaieniebaaDoor
open Go.RowKit
attribute [local go_sem ↓] Go.wp_at_zero Go.wp_at_succ

theorem infoCall : (Tryd.prog.info? 95).map (fun i => (i.zero, i.size, i.bytes)) = some (some (.pointer none), 1, 8) := by kernel_rfl
theorem sp_nil {dst a b n : Int} {cs : List Fr} {s : Mch} (h : s.input = []) : speaksS ⟨46, dst, a, b, n⟩ cs s = s.set dst (-1) := by
  unfold speaksS readM
  rw [h]
  rfl
theorem sp_cons {dst a b n x : Int} {l : List Int} {cs : List Fr} {s : Mch} (h : s.input = x :: l) : speaksS ⟨46, dst, a, b, n⟩ cs s = { s with regs := s.regs.set dst.toNat x, input := l } := by
  unfold speaksS readM
  rw [h]
  rfl
theorem sp_more {dst a b n : Int} {cs : List Fr} {s : Mch} (h : s.out.length ≠ 200) : speaksS ⟨47, dst, a, b, n⟩ cs s = { s with out := s.out ++ [s.reg a] } := by
  unfold speaksS printS
  rw [if_neg h]
  rfl
theorem sp_much {dst a b n : Int} {cs : List Fr} {s : Mch} (h : s.out.length = 200) : speaksS ⟨47, dst, a, b, n⟩ cs s = s.ends 5 := by
  unfold speaksS printS
  rw [if_pos h]
  rfl
theorem IntsAt.tail {w : World} {B b off c : Nat} {x : Int} {l : List Int} (hc : l.length + 1 ≤ c) (h63 : c ≤ 9223372036854775807) (hb : b < B) (hcell : ∀ (k : Nat) (y : Int), (x :: l)[k]? = some y → w.cell? ⟨b, off + k, none⟩ = some (.int .i64 y)) :
    IntsAt w B (.slice (some ⟨b, off + 1, none⟩) l.length (c - 1)) l := by
  refine ⟨_, c - 1, rfl, by omega, by omega, fun hl => ?_⟩
  refine ⟨b, off + 1, rfl, hb, fun k y hk => ?_⟩
  have := hcell (k + 1) y (by simpa using hk)
  rw [← this]
  congr 2
  omega
theorem IntsAt.tail1 {w : World} {B b off : Nat} {l : List Int} (hc : l.length + 1 ≤ 1) : IntsAt w B (.slice (some ⟨b, off, none⟩) l.length 0) l :=
  ⟨_, 0, rfl, by omega, by omega, fun hl => by omega⟩
theorem MRest.reading {w : World} {base : Nat} {codes : List (List Mac)} {mem : List Int} {calls : List Fr} {input input' out : List Int} {cv mv lv iv iv' ov : Value} {ps : List Nat} (h : MRest w base codes mem calls input out cv mv lv iv ov ps) (hi : IntsAt w base iv' input') : MRest w base codes mem calls input' out cv mv lv iv' ov ps :=
  ⟨h.hcodes, h.hmem, h.hcalls, hi, h.hout, h.apart, h.frs⟩
set_option maxRecDepth 100000 in
set_option maxHeartbeats 1000000 in
theorem speaks_44 (dst a b n : Int) (w : World) (base g p : Nat) (codes : List (List Mac)) (s : Mch) (c : Fr) (cs : List Fr) (h : MachTop w base g codes s c cs p) (hr : s.regs.length = 16) (n1 : 0 ≤ n) (h30s : s.calls.length ≤ 30) :
    Calls Tryd.prog 75 #[.pointer (some ⟨g, 0, none⟩), macV ⟨44, dst, a, b, n⟩] w (MachPost w base g codes (speaksS ⟨44, dst, a, b, n⟩ cs s) (.tuple #[])) := by
  obtain ⟨nn, rfl⟩ := Int.eq_ofNat_of_zero_le n1
  have hA : Below w.heap.size w (w.alloc (.cells #[.int .i64 44, .int .i64 dst, .int .i64 a, .int .i64 b, .int .i64 (nn : Int)] 24)) := (Below.refl _ _).alloc (Nat.le_refl _) _
  have hk := Blk.new w 24 #[.int .i64 44, .int .i64 dst, .int .i64 a, .int .i64 b, .int .i64 (nn : Int)]
  have HM := Lib.hid (h.below hA)
  have HZ := Lib.hid h.size
  have HA := Lib.hid hA
  have HK := Lib.hid hk
  have Hr := Lib.hid hr
  clear hA hk h hr
  unfold macV
  simp only
  go_enter Tryd.func75, Tryd.ntmps75
  go_upto_region 1 with fail
  generalize w.alloc (.cells #[.int .i64 44, .int .i64 dst, .int .i64 a, .int .i64 b, .int .i64 (nn : Int)] 24) = w1 at *
  generalize w.heap.size = gk at *
  have k0 := HK.out.cell 0
  have k1 := HK.out.cell 1
  have k2 := HK.out.cell 2
  have k3 := HK.out.cell 3
  have k4 := HK.out.cell 4
  obtain ⟨hg, hs, cv, mv, lv, iv, ov, ps, h⟩ := HM.out
  obtain ⟨bl, cl, hlv, hcl0, hcl⟩ := row_some h.2.hcalls (by simp)
  subst hlv
  have hpl : (p :: ps).length = s.calls.length := by rw [hs]; exact h.2.frs.len
  obtain ⟨L, hL⟩ : ∃ L, (p :: ps).length = L := ⟨_, rfl⟩
  rw [hL] at h hpl hcl0
  have HL := Lib.hid hL
  have c18 := (h.1.cell 18).trans (mach_tail Hr.out 1)
  simp only [List.getElem?_cons_succ, List.getElem?_cons_zero] at c18
  have f18 := h.1.frozen 18
  have H := Lib.hid h
  have Hs := Lib.hid hs
  have Hpl := Lib.hid hpl
  clear h hs hL hpl
  by_cases h30 : L = 30
  · have hb30 : ((L : Int) == 30) = true := by simp [h30]
    have H30 := Lib.hid h30
    clear h30
    go_wp2_with fail
    refine (ends_any 4 _ base g codes s HM.out.is Hr.out).mono ?_
    rintro e w' ⟨rfl, hm, hb⟩
    have HM2 := Lib.hid hm
    have HB2 := Lib.hid hb
    clear hm hb
    go_wp2_with fail
    go_end0
    refine ⟨rfl, ?_, (HA.out.mono HZ.out).trans HB2.out⟩
    have e : speaksS ⟨44, dst, a, b, (nn : Int)⟩ cs s = s.ends 4 := by unfold speaksS callS; simp only; rw [if_pos trivial, if_pos (by rw [← Hpl.out]; exact H30.out)]
    rw [e]
    exact HM2.out
  · have hb30 : ((L : Int) == 30) = false := by simp; omega
    have H30 := Lib.hid h30
    clear h30
    go_wp2_with fail
    have HC : Hid (w1.ownsRow base 95 1 (.slice (some ⟨bl, 0, none⟩) L cl) L ((p :: ps).reverse.map ptrV)) := Lib.hid (by have := H.out.2.hcalls; rw [HL.out] at this; exact this)
    have Hcs : Hid (L ≤ 30) := Lib.hid (by rw [Hpl.out]; exact h30s)
    have c18a : ∀ o, (w1.alloc o).cell? ⟨g, 18, none⟩ = some (.slice (some ⟨bl, 0, none⟩) L cl) := fun o => (World.cell?_alloc_lt w1 o ⟨g, 18, none⟩ H.out.1.lt).trans c18
    have c18b : ∀ o o', ((w1.alloc o).alloc o').cell? ⟨g, 18, none⟩ = some (.slice (some ⟨bl, 0, none⟩) L cl) := fun o o' => (World.cell?_alloc_lt _ o' ⟨g, 18, none⟩ (H.out.1.alloc o).lt).trans (c18a o)
    go_region_law ((refine step_app_src (by rfl) (.tmp 20) (.tmp 25) 99 95 (by rfl) (.pointer none) 1 8 Tryd.underlying99 infoCall rfl (by decide) (by decide) base (.slice (some ⟨bl, 0, none⟩) L cl) L ((p :: ps).reverse.map ptrV) (by rfl) (World.ownsRow.drew ((HC.out.alloc _).alloc _)) (some ⟨w1.heap.size + 1, 0, none⟩) 1 1 [ptrV w1.heap.size] (by rfl) (by rfl) (fun _ => ⟨_, rfl, cells_new (w1.alloc _) [ptrV w1.heap.size] 95 (w1.heap.size + 1) (by simp)⟩) (fun u hu => by simp at hu; subst hu; rfl) (by have := Hcs.out; omega) (by have := H.out.1.lt; simp; omega) (w1.heap.size + 2) (by simp) ?_; intro B4 c4 w4 HA4; rw [newFr] at HA4; have HP4 := Lib.hid (MRest.push H.out hg _ HL.out.symm HA4.out); have e18 := (HP4.out.1.cell 18).trans (mach_tail Hr.out 1); simp only [List.getElem?_cons_succ, List.getElem?_cons_zero] at e18; have ef18 := HP4.out.1.frozen 18; have e4 := (HA4.out.blk (World.ownsRow.drew ((HC.out.alloc _).alloc _)) (show Blk (World.drew _) gk _ _ from (HK.out.alloc _).alloc _) (by decide)).cell 4))
    all_goals
      go_wp2_with fail
      go_end0
      refine ⟨rfl, ?_, ((HA.out.mono HZ.out).trans HP4.out.2.2).setCell hg _⟩
      have e : speaksS ⟨44, dst, a, b, (nn : Int)⟩ cs s = { s with calls := ⟨nn, 0, List.replicate 120 0⟩ :: s.calls } := by unfold speaksS callS; simp only; rw [if_pos trivial, if_neg (by rw [← Hpl.out]; exact H30.out)]; rfl
      rw [e]
      exact mk_is hg (mset ⟨HP4.out.1, HP4.out.2.1⟩ hg (mach_set_calls _ Hr.out)) rfl (by rw [← Hs.out]) rfl rfl
set_option maxRecDepth 100000 in
set_option maxHeartbeats 1000000 in
theorem speaks_45 (dst a b n : Int) (w : World) (base g p : Nat) (codes : List (List Mac)) (s : Mch) (c : Fr) (cs : List Fr) (h : MachTop w base g codes s c cs p) (hr : s.regs.length = 16) :
    Calls Tryd.prog 75 #[.pointer (some ⟨g, 0, none⟩), macV ⟨45, dst, a, b, n⟩] w (MachPost w base g codes (speaksS ⟨45, dst, a, b, n⟩ cs s) (.tuple #[])) := by
  have hA : Below w.heap.size w (w.alloc (.cells #[.int .i64 45, .int .i64 dst, .int .i64 a, .int .i64 b, .int .i64 n] 24)) := (Below.refl _ _).alloc (Nat.le_refl _) _
  have hk := Blk.new w 24 #[.int .i64 45, .int .i64 dst, .int .i64 a, .int .i64 b, .int .i64 n]
  have HM := Lib.hid (h.below hA)
  have HZ := Lib.hid h.size
  have HA := Lib.hid hA
  have HK := Lib.hid hk
  have Hr := Lib.hid hr
  clear hA hk h hr
  unfold macV
  simp only
  go_enter Tryd.func75, Tryd.ntmps75
  go_upto_region 1 with fail
  generalize w.alloc (.cells #[.int .i64 45, .int .i64 dst, .int .i64 a, .int .i64 b, .int .i64 n] 24) = w1 at *
  generalize w.heap.size = gk at *
  have k0 := HK.out.cell 0
  have k1 := HK.out.cell 1
  have k2 := HK.out.cell 2
  have k3 := HK.out.cell 3
  have k4 := HK.out.cell 4
  obtain ⟨hg, hs, cv, mv, lv, iv, ov, ps, h⟩ := HM.out
  obtain ⟨bl, cl, hlv, hcl0, hcl⟩ := row_some h.2.hcalls (by simp)
  subst hlv
  have hpl : ps.length = cs.length := h.2.frs.2.2.2.len
  have h' : Blk w1 g 102 (machCells cv mv (.slice (some ⟨bl, 0, none⟩) (ps.length + 1) cl) iv ov s).toArray ∧ MRest w1 base codes s.mem (c :: cs) s.input s.out cv mv (.slice (some ⟨bl, 0, none⟩) (ps.length + 1) cl) iv ov (p :: ps) := h
  have hl2 : MRest w1 base codes s.mem cs s.input s.out cv mv (.slice (some ⟨bl, 0, none⟩) ps.length cl) iv ov ps := h'.2.pop
  have hcl0' : ps.length + 1 ≤ cl := hcl0
  obtain ⟨L, hL⟩ : ∃ L, ps.length = L := ⟨_, rfl⟩
  rw [hL] at h' hpl hcl0' hl2
  have c18 := (h'.1.cell 18).trans (mach_tail Hr.out 1)
  simp only [List.getElem?_cons_succ, List.getElem?_cons_zero] at c18
  have f18 := h'.1.frozen 18
  have c21 := (h'.1.cell 21).trans (mach_tail Hr.out 4)
  simp only [List.getElem?_cons_succ, List.getElem?_cons_zero] at c21
  have f21 := h'.1.frozen 21
  have cr0 := (h'.1.cell (1 + 0)).trans (mach_reg Hr.out (by omega))
  simp only [Nat.add_zero] at cr0
  have H := Lib.hid h'
  have HL := Lib.hid hl2
  have Hs := Lib.hid hs
  have Hpl := Lib.hid hpl
  clear h hs hL hpl h' hl2 hcl0
  have H1 : Hid (Blk (w1.setCell ⟨g, 18, none⟩ (.slice (some ⟨bl, 0, none⟩) L cl)).drew g 102 (machCells cv mv (.slice (some ⟨bl, 0, none⟩) L cl) iv ov s).toArray ∧ MRest (w1.setCell ⟨g, 18, none⟩ (.slice (some ⟨bl, 0, none⟩) L cl)).drew base codes s.mem cs s.input s.out cv mv (.slice (some ⟨bl, 0, none⟩) L cl) iv ov ps) :=
    Lib.hid (pair_below hg (mset ⟨H.out.1, HL.out⟩ hg (mach_set_calls _ Hr.out)) (below_drew1 (Below.refl _ _)))
  obtain ⟨x, hx⟩ : ∃ x, s.regs.getD 0 0 = x := ⟨_, rfl⟩
  have HX := Lib.hid hx
  rw [hx] at cr0
  clear hx
  by_cases h0 : L = 0
  · subst h0
    go_wp2_with fail
    go_region
    all_goals
      go_wp2_with fail
      refine (ends_any 0 _ base g codes { s with calls := cs, value := x } ?_ Hr.out).mono ?_
      · exact mk_is hg (mset H1.out hg (mach_set_value x Hr.out)) rfl rfl rfl rfl
      rintro e w' ⟨rfl, hm, hb⟩
      have HM2 := Lib.hid hm
      have HB2 := Lib.hid hb
      clear hm hb
      go_wp2_with fail
      go_end0
      refine ⟨rfl, ?_, (below_drew1 (((HA.out.mono HZ.out).setCell hg _).setCell hg _)).trans HB2.out⟩
      have e : speaksS ⟨45, dst, a, b, n⟩ cs s = Mch.ends { s with calls := cs, value := x } 0 := by unfold speaksS retS; simp only; rw [if_neg (by omega), if_pos trivial, if_pos (by rw [← Hpl.out])]; rw [show s.reg 0 = x from HX.out]; rfl
      rw [e]
      exact HM2.out
  · have hb0 : ((L : Int) == 0) = false := by simp; omega
    have H0 := Lib.hid h0
    clear h0
    go_wp2_with fail
    go_region
    all_goals
      go_wp2_with fail
      go_end0
      refine ⟨rfl, ?_, below_drew1 ((HA.out.mono HZ.out).setCell hg _)⟩
      have e : speaksS ⟨45, dst, a, b, n⟩ cs s = { s with calls := cs } := by unfold speaksS retS; simp only; rw [if_neg (by omega), if_pos trivial, if_neg (by rw [← Hpl.out]; exact H0.out)]
      rw [e]
      exact mk_is hg H1.out rfl rfl rfl rfl
set_option maxRecDepth 100000 in
set_option maxHeartbeats 1000000 in
theorem speaks_46 (dst a b n : Int) (w : World) (base g p : Nat) (codes : List (List Mac)) (s : Mch) (c : Fr) (cs : List Fr) (h : MachTop w base g codes s c cs p) (hr : s.regs.length = 16) (d1 : 0 ≤ dst) (d2 : dst < 16) :
    Calls Tryd.prog 75 #[.pointer (some ⟨g, 0, none⟩), macV ⟨46, dst, a, b, n⟩] w (MachPost w base g codes (speaksS ⟨46, dst, a, b, n⟩ cs s) (.tuple #[])) := by
  obtain ⟨dn, rfl⟩ := Int.eq_ofNat_of_zero_le d1
  have hdn : dn < 16 := by omega
  have hA : Below w.heap.size w (w.alloc (.cells #[.int .i64 46, .int .i64 (dn : Int), .int .i64 a, .int .i64 b, .int .i64 n] 24)) := (Below.refl _ _).alloc (Nat.le_refl _) _
  have hk := Blk.new w 24 #[.int .i64 46, .int .i64 (dn : Int), .int .i64 a, .int .i64 b, .int .i64 n]
  have HM := Lib.hid (h.below hA)
  have HZ := Lib.hid h.size
  have HA := Lib.hid hA
  have HK := Lib.hid hk
  have Hr := Lib.hid hr
  clear hA hk h hr
  unfold macV
  simp only
  go_enter Tryd.func75, Tryd.ntmps75
  go_upto_region 1 with fail
  generalize w.alloc (.cells #[.int .i64 46, .int .i64 (dn : Int), .int .i64 a, .int .i64 b, .int .i64 n] 24) = w1 at *
  generalize w.heap.size = gk at *
  have k0 := HK.out.cell 0
  have k1 := HK.out.cell 1
  have k2 := HK.out.cell 2
  have k3 := HK.out.cell 3
  have k4 := HK.out.cell 4
  obtain ⟨hg, hs, cv, mv, lv, iv, ov, ps, h⟩ := HM.out
  have cd := (h.1.cell (1 + dn)).trans (mach_reg Hr.out hdn)
  have fd := h.1.frozen (1 + dn)
  have c19 := (h.1.cell 19).trans (mach_tail Hr.out 2)
  simp only [List.getElem?_cons_succ, List.getElem?_cons_zero] at c19
  have f19 := h.1.frozen 19
  have hin := h.2.hinput
  have H := Lib.hid h
  have Hs := Lib.hid hs
  clear h hs
  obtain ⟨A, ci, rfl, hlc, h63, hcell⟩ := hin
  have H1 : Hid (Blk (w1.setCell ⟨g, 1 + dn, none⟩ (.int .i64 (-1))) g 102 (machCells cv mv lv (.slice A s.input.length ci) ov { s with regs := s.regs.set dn (-1) }).toArray ∧ MRest (w1.setCell ⟨g, 1 + dn, none⟩ (.int .i64 (-1))) base codes s.mem (c :: cs) s.input s.out cv mv lv (.slice A s.input.length ci) ov (p :: ps)) :=
    Lib.hid (mset H.out hg (mach_set_reg dn _ Hr.out hdn))
  have Hcell := Lib.hid hcell
  clear hcell
  obtain ⟨il, hil⟩ : ∃ il, s.input = il := ⟨_, rfl⟩
  have Hil := Lib.hid hil
  rw [hil] at hlc c19 H H1 Hcell
  clear hil
  cases il with
  | nil =>
    simp only [List.length_nil] at c19 hlc
    go_wp2_with fail
    go_region
    all_goals
      go_wp2_with fail
      go_end0
      refine ⟨rfl, ?_, below_drew1 ((HA.out.mono HZ.out).setCell hg _)⟩
      rw [sp_nil Hil.out]
      refine MachIs.drew ?_
      exact mk_is hg H1.out rfl Hs.out Hil.out rfl
  | cons x l =>
    obtain ⟨bi, oi, rfl, hbi, hci⟩ := Hcell.out (by simp)
    have cx : w1.cell? ⟨bi, oi, none⟩ = some (.int .i64 x) := hci 0 x rfl
    simp only [List.length_cons] at c19 hlc
    have Hci := Lib.hid hci
    clear hci
    go_wp2_with fail
    go_region
    have hB2 : Below base w1 (w1.setCell ⟨g, 1 + dn, none⟩ (.int .i64 (-1))).drew := below_drew1 ((Below.refl base w1).setCell hg _)
    have H2 : Hid (Blk (w1.setCell ⟨g, 1 + dn, none⟩ (.int .i64 (-1))).drew g 102 (machCells cv mv lv (.slice (some ⟨bi, oi, none⟩) (l.length + 1) ci) ov { s with regs := s.regs.set dn (-1) }).toArray ∧ MRest (w1.setCell ⟨g, 1 + dn, none⟩ (.int .i64 (-1))).drew base codes s.mem (c :: cs) (x :: l) s.out cv mv lv (.slice (some ⟨bi, oi, none⟩) (l.length + 1) ci) ov (p :: ps)) :=
      Lib.hid (pair_below hg H1.out (below_drew1 (Below.refl _ _)))
    have HK2 : Hid (Blk (w1.setCell ⟨g, 1 + dn, none⟩ (.int .i64 (-1))).drew gk 24 #[.int .i64 46, .int .i64 (dn : Int), .int .i64 a, .int .i64 b, .int .i64 n]) := Lib.hid (HK.out.far (HK.out.types H.out.1 (by decide)) _)
    have HB2 := Lib.hid hB2
    have Hr2 : Hid ((Mch.regs { s with regs := s.regs.set dn (-1) }).length = 16) := Lib.hid (by show (s.regs.set dn (-1)).length = 16; rw [List.length_set]; exact Hr.out)
    clear hB2
    generalize (w1.setCell ⟨g, 1 + dn, none⟩ (.int .i64 (-1))).drew = w2 at *
    have e1 := HK2.out.cell 1
    have ed := (H2.out.1.cell (1 + dn)).trans (mach_reg Hr2.out hdn)
    have efd := H2.out.1.frozen (1 + dn)
    have e19 := (H2.out.1.cell 19).trans (mach_tail Hr2.out 2)
    simp only [List.getElem?_cons_succ, List.getElem?_cons_zero] at e19
    have ef19 := H2.out.1.frozen 19
    have ex := (bcell HB2.out hbi).trans cx
    have HIn : Hid (IntsAt w2 base (.slice (some ⟨bi, oi, none⟩) (l.length + 1) ci) (x :: l)) := Lib.hid H2.out.2.hinput
    clear k0 k1 k2 k3 k4 cd fd c19 f19 cx
    go_wp2_with fail
    go_region
    all_goals go_wp2_with fail
    all_goals
      go_end0
      have h2 := mset H2.out hg (mach_set_reg dn x Hr2.out hdn)
      simp only [List.set_set] at h2
      have hr3 : (s.regs.set dn x).length = 16 := by rw [List.length_set]; exact Hr.out
      refine ⟨rfl, ?_, below_drew1 ((((HA.out.mono HZ.out).trans HB2.out).setCell hg _).setCell hg _)⟩
      rw [sp_cons Hil.out]
      refine MachIs.drew ?_
      refine mk_is hg ⟨(mset h2 hg (mach_set_input _ hr3)).1, (h2.2.setg h2.1 hg _).reading (IntsAt.below ?_ (((Below.refl base w2).setCell hg _).setCell hg _) (Nat.le_refl _))⟩ rfl Hs.out rfl rfl
      first
        | exact IntsAt.tail1 (by omega)
        | exact IntsAt.tail hlc h63 hbi fun k y hk => (bcell HB2.out hbi).trans (Hci.out k y hk)
set_option maxRecDepth 100000 in
set_option maxHeartbeats 1000000 in
theorem speaks_47 (dst a b n : Int) (w : World) (base g p : Nat) (codes : List (List Mac)) (s : Mch) (c : Fr) (cs : List Fr) (h : MachTop w base g codes s c cs p) (hr : s.regs.length = 16) (a1 : 0 ≤ a) (a2 : a < 16) (h200 : s.out.length ≤ 200) :
    Calls Tryd.prog 75 #[.pointer (some ⟨g, 0, none⟩), macV ⟨47, dst, a, b, n⟩] w (MachPost w base g codes (speaksS ⟨47, dst, a, b, n⟩ cs s) (.tuple #[])) := by
  obtain ⟨an, rfl⟩ := Int.eq_ofNat_of_zero_le a1
  have han : an < 16 := by omega
  have hA : Below w.heap.size w (w.alloc (.cells #[.int .i64 47, .int .i64 dst, .int .i64 (an : Int), .int .i64 b, .int .i64 n] 24)) := (Below.refl _ _).alloc (Nat.le_refl _) _
  have hk := Blk.new w 24 #[.int .i64 47, .int .i64 dst, .int .i64 (an : Int), .int .i64 b, .int .i64 n]
  have HM := Lib.hid (h.below hA)
  have HZ := Lib.hid h.size
  have HA := Lib.hid hA
  have HK := Lib.hid hk
  have Hr := Lib.hid hr
  clear hA hk h hr
  unfold macV
  simp only
  go_enter Tryd.func75, Tryd.ntmps75
  go_upto_region 1 with fail
  generalize w.alloc (.cells #[.int .i64 47, .int .i64 dst, .int .i64 (an : Int), .int .i64 b, .int .i64 n] 24) = w1 at *
  generalize w.heap.size = gk at *
  have k0 := HK.out.cell 0
  have k1 := HK.out.cell 1
  have k2 := HK.out.cell 2
  have k3 := HK.out.cell 3
  have k4 := HK.out.cell 4
  obtain ⟨hg, hs, cv, mv, lv, iv, ov, ps, h⟩ := HM.out
  have ca := (h.1.cell (1 + an)).trans (mach_reg Hr.out han)
  obtain ⟨Ao, co, hov⟩ := row_form h.2.hout
  subst hov
  obtain ⟨L, hL⟩ : ∃ L, s.out.length = L := ⟨_, rfl⟩
  rw [hL] at h h200
  have HL := Lib.hid hL
  have c22 := (h.1.cell 22).trans (mach_tail Hr.out 5)
  simp only [List.getElem?_cons_succ, List.getElem?_cons_zero] at c22
  have f22 := h.1.frozen 22
  have H := Lib.hid h
  have Hs := Lib.hid hs
  have HC : Hid (w1.ownsRow base 3 1 (.slice Ao L co) L (intV s.out)) := Lib.hid (by have := h.2.hout; rw [hL] at this; exact this)
  clear h hs hL
  obtain ⟨x, hx⟩ : ∃ x, s.regs.getD an 0 = x := ⟨_, rfl⟩
  have HX := Lib.hid hx
  rw [hx] at ca
  clear hx
  by_cases h2 : L = 200
  · have hb : ((L : Int) == 200) = true := by simp [h2]
    have H2 := Lib.hid h2
    clear h2
    go_wp2_with fail
    refine (ends_any 5 _ base g codes s HM.out.is Hr.out).mono ?_
    rintro e w' ⟨rfl, hm, hb⟩
    have HM2 := Lib.hid hm
    have HB2 := Lib.hid hb
    clear hm hb
    go_wp2_with fail
    go_end0
    refine ⟨rfl, ?_, (HA.out.mono HZ.out).trans HB2.out⟩
    rw [sp_much (by rw [HL.out]; exact H2.out)]
    exact HM2.out
  · have hb : ((L : Int) == 200) = false := by simp; omega
    have H2 := Lib.hid h2
    clear h2
    have c22a : ∀ o, (w1.alloc o).cell? ⟨g, 22, none⟩ = some (.slice Ao L co) := fun o => (World.cell?_alloc_lt w1 o ⟨g, 22, none⟩ H.out.1.lt).trans c22
    go_wp2_with fail
    go_region_law ((refine step_app_src (by rfl) (.tmp 112) (.tmp 120) 26 3 (by rfl) (.int .i64 0) 1 8 Tryd.underlying26 infoInt rfl (by decide) (by decide) base (.slice Ao L co) L (intV s.out) (by rfl) (World.ownsRow.drew (HC.out.alloc _)) (some ⟨w1.heap.size, 0, none⟩) 1 1 [.int .i64 x] (by rfl) (by rfl) (fun _ => ⟨_, rfl, cells_new w1 [.int .i64 x] 3 w1.heap.size rfl⟩) (fun u hu => by simp at hu; subst hu; rfl) (by omega) (by have := H.out.1.lt; simp; omega) (w1.heap.size + 1) (by simp) ?_; intro B4 c4 w4 HA4; have HP4 := Lib.hid (MRest.print H.out hg x HL.out.symm HA4.out); have e22 := (HP4.out.1.cell 22).trans (mach_tail Hr.out 5); simp only [List.getElem?_cons_succ, List.getElem?_cons_zero] at e22; have ef22 := HP4.out.1.frozen 22))
    all_goals
      go_wp2_with fail
      go_end0
      refine ⟨rfl, ?_, ((HA.out.mono HZ.out).trans HP4.out.2.2).setCell hg _⟩
      rw [sp_more (by rw [HL.out]; exact H2.out), show s.reg (an : Int) = x from HX.out]
      exact mk_is hg (mset ⟨HP4.out.1, HP4.out.2.1⟩ hg (mach_set_out _ Hr.out)) rfl Hs.out rfl rfl
/-- speaks, whatever the Op. -/
theorem speaks_any (m : Mac) (len rts : Nat) (w : World) (base g p : Nat) (codes : List (List Mac)) (s : Mch) (c : Fr) (cs : List Fr) (h : MachTop w base g codes s c cs p) (hr : s.regs.length = 16) (hm : GoodM m len rts) (h1 : 44 ≤ m.op) (h30 : s.calls.length ≤ 30) (h200 : s.out.length ≤ 200) :
    Calls Tryd.prog 75 #[.pointer (some ⟨g, 0, none⟩), macV m] w (MachPost w base g codes (speaksS m cs s) (.tuple #[])) := by
  obtain ⟨op, dst, a, b, n⟩ := m
  obtain ⟨o1, o2, d1, d2, a1, a2, b1, b2, _, _, hn⟩ := hm
  simp only at o1 o2 d1 d2 a1 a2 b1 b2 hn h1
  obtain rfl | rfl | rfl | rfl : op = 44 ∨ op = 45 ∨ op = 46 ∨ op = 47 := by omega
  · exact speaks_44 dst a b n w base g p codes s c cs h hr (hn rfl).1 h30
  · exact speaks_45 dst a b n w base g p codes s c cs h hr
  · exact speaks_46 dst a b n w base g p codes s c cs h hr d1 d2
  · exact speaks_47 dst a b n w base g p codes s c cs h hr a1 a2 h200
end Go.Proofs.YtkiaffaieniebaaDoor
