/-
  Contracts of the machine's ends, place, reckon.
  Conditions: the machine lies in memory; sixteen registers.
-/
import Derived.Test.YtkiaffaieniebaaDoorRuC
import Derived.Test.YtkiaffaieniebaaDoorRnB
import Derived.Test.YtkiaffaieniebaaDoorRuG
namespace Go.Proofs.YtkiaffaieniebaaDoor
open Go.RowKit

theorem ends_any (st : Int) (w : World) (base g : Nat) (codes : List (List Mac)) (s : Mch) (h : MachIs w base g codes s) (hr : s.regs.length = 16) :
    Calls Tryd.prog 93 #[.pointer (some ⟨g, 0, none⟩), .int .i64 st] w (MachPost w base g codes (s.ends st) (.tuple #[])) := by
  obtain ⟨hg, cv, mv, lv, iv, ov, ps, h⟩ := h
  have f20 := h.1.frozen 20
  have f24 := h.1.frozen 24
  have c20 := (h.1.cell 20).trans (mach_tail hr 3)
  have c24 := (h.1.cell 24).trans (mach_tail hr 7)
  simp only [List.getElem?_cons_succ, List.getElem?_cons_zero] at c20 c24
  have H := Lib.hid h
  have Hr := Lib.hid hr
  clear h hr
  go_enter Tryd.func93, Tryd.ntmps93
  go_wp2_with fail
  go_end0
  have h2 := mset (mset H.out hg (mach_set_state st Hr.out)) hg (mach_set_over true Hr.out)
  exact ⟨rfl, ⟨hg, cv, mv, lv, iv, ov, ps, h2.1, h2.2⟩, ((Below.refl _ _).setCell hg _).setCell hg _⟩
theorem place_yes (n : Int) (w : World) (base g : Nat) (codes : List (List Mac)) (s : Mch) (h : MachIs w base g codes s) (hr : s.regs.length = 16) (h0 : 0 ≤ n) (h1 : n < (s.mem.length : Int)) :
    Calls Tryd.prog 94 #[.pointer (some ⟨g, 0, none⟩), .int .i64 n] w fun e w' => e = .returned (.bool true) ∧ w = w' := by
  obtain ⟨hg, cv, mv, lv, iv, ov, ps, h⟩ := h
  have c17 := (h.1.cell 17).trans (mach_tail hr 0)
  simp only [List.getElem?_cons_zero] at c17
  obtain ⟨Am, cm, hmv⟩ := row_form h.2.hmem
  subst hmv
  clear h hr
  go_enter Tryd.func94, Tryd.ntmps94
  go_wp2_with fail
  go_ret
  exact ⟨rfl, rfl⟩
theorem place_no (n : Int) (w : World) (base g : Nat) (codes : List (List Mac)) (s : Mch) (h : MachIs w base g codes s) (hr : s.regs.length = 16) (h1 : ¬ (0 ≤ n ∧ n < (s.mem.length : Int))) :
    Calls Tryd.prog 94 #[.pointer (some ⟨g, 0, none⟩), .int .i64 n] w (MachPost w base g codes (s.ends 3) (.bool false)) := by
  have HC := Lib.hid (ends_any 3 w base g codes s h hr)
  obtain ⟨hg, cv, mv, lv, iv, ov, ps, h⟩ := h
  have c17 := (h.1.cell 17).trans (mach_tail hr 0)
  simp only [List.getElem?_cons_zero] at c17
  obtain ⟨Am, cm, hmv⟩ := row_form h.2.hmem
  subst hmv
  clear h hr
  by_cases h0 : n < 0
  · clear h1
    go_enter Tryd.func94, Tryd.ntmps94
    go_wp2_with (go_at_call 93; refine HC.out.mono ?_; rintro e w' ⟨rfl, hm, hb⟩)
    go_ret
    exact ⟨rfl, hm, hb⟩
  · have h2 : (s.mem.length : Int) ≤ n := by omega
    clear h1
    go_enter Tryd.func94, Tryd.ntmps94
    go_wp2_with (go_at_call 93; refine HC.out.mono ?_; rintro e w' ⟨rfl, hm, hb⟩)
    go_ret
    exact ⟨rfl, hm, hb⟩
theorem reckon_any (op d a b : Int) (w : World) (base g : Nat) (codes : List (List Mac)) (s : Mch) (h : MachIs w base g codes s) (hr : s.regs.length = 16) (h1 : 5 ≤ op) (h2 : op ≤ 18) (d1 : 0 ≤ d) (d2 : d < 16) :
    Calls Tryd.prog 73 #[.pointer (some ⟨g, 0, none⟩), .int .i64 op, .int .i64 d, .int .i64 a, .int .i64 b] w (MachPost w base g codes (reckS (op - 3) d a b s) (.tuple #[])) := by
  have HC := Lib.hid (ends_any 2 w base g codes s h hr)
  obtain ⟨hg, cv, mv, lv, iv, ov, ps, h⟩ := h
  obtain ⟨dn, rfl⟩ := Int.eq_ofNat_of_zero_le d1
  have hdn : dn < 16 := by omega
  have cd := (h.1.cell (1 + dn)).trans (mach_reg hr hdn)
  have fd := h.1.frozen (1 + dn)
  have H := Lib.hid h
  have Hr := Lib.hid hr
  obtain ⟨n, ok, ht⟩ : ∃ n ok, twoS (op - 3) a b = (n, ok) := ⟨_, _, rfl⟩
  have HT := Lib.hid ht
  have hcall := Two_any (op - 3) a b w (by omega) (by omega)
  rw [ht] at hcall
  unfold TwoPost at hcall
  have HCall := Lib.hid hcall
  have he : op - 5 + 2 = op - 3 := by omega
  clear h hr ht hcall
  cases ok
  · go_enter Tryd.func73, Tryd.ntmps73
    go_wp2_with fail
    refine HCall.out.mono ?_
    rintro e w' ⟨rfl, rfl⟩
    go_wp2_with (go_at_call 93; refine HC.out.mono ?_; rintro e w' ⟨rfl, hm, hb⟩)
    go_end0
    refine ⟨rfl, ?_, hb⟩
    unfold reckS
    rw [HT.out]
    exact hm
  · go_enter Tryd.func73, Tryd.ntmps73
    go_wp2_with fail
    refine HCall.out.mono ?_
    rintro e w' ⟨rfl, rfl⟩
    go_wp2_with fail
    go_end0
    have h2 := mset H.out hg (mach_set_reg dn n Hr.out hdn)
    refine ⟨rfl, ?_, (Below.refl _ _).setCell hg _⟩
    unfold reckS
    rw [HT.out]
    exact ⟨hg, cv, mv, lv, iv, ov, ps, h2.1, h2.2⟩
end Go.Proofs.YtkiaffaieniebaaDoor
