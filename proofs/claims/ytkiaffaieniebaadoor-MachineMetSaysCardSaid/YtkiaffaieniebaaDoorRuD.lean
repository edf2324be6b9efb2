/-
  Contract of the machine's moves, one theorem an Op.
  Conditions: the machine lies in memory; sixteen registers; the fields in bounds.
-/
import Derived.Test.YtkiaffaieniebaaDoorRuB
import Derived.Test.YtkiaffaieniebaaDoorRuC
import Derived.RegionTactic
import Derived.BigRegion
import Derived.Deep.QuietTactic
import Derived.BigQuiet
namespace Go.Proofs.YtkiaffaieniebaaDoor
open Go.RowKit

/-- The machine lies in block g, its newest call in block p. -/
def MachTop (w : World) (base g : Nat) (codes : List (List Mac)) (s : Mch) (c : Fr) (cs : List Fr) (p : Nat) : Prop :=
  base ≤ g ∧ s.calls = c :: cs ∧ ∃ cv mv lv iv ov ps, Blk w g 102 (machCells cv mv lv iv ov s).toArray ∧ MRest w base codes s.mem (c :: cs) s.input s.out cv mv lv iv ov (p :: ps)
theorem MachTop.is {w : World} {base g : Nat} {codes : List (List Mac)} {s : Mch} {c : Fr} {cs : List Fr} {p : Nat} (h : MachTop w base g codes s c cs p) : MachIs w base g codes s := by
  obtain ⟨hg, hs, cv, mv, lv, iv, ov, ps, h1, h2⟩ := h
  exact ⟨hg, cv, mv, lv, iv, ov, _, h1, by rw [hs]; exact h2⟩
theorem MachTop.below {w w' : World} {base g : Nat} {codes : List (List Mac)} {s : Mch} {c : Fr} {cs : List Fr} {p : Nat} (h : MachTop w base g codes s c cs p) (hb : Below w.heap.size w w') : MachTop w' base g codes s c cs p := by
  obtain ⟨hg, hs, cv, mv, lv, iv, ov, ps, h1, h2⟩ := h
  exact ⟨hg, hs, cv, mv, lv, iv, ov, ps, h1.below hb h1.lt, h2.below (by have := h1.lt; omega) hb⟩
theorem MachTop.size {w : World} {base g : Nat} {codes : List (List Mac)} {s : Mch} {c : Fr} {cs : List Fr} {p : Nat} (h : MachTop w base g codes s c cs p) : base ≤ w.heap.size := by
  obtain ⟨hg, _, _, _, _, _, _, _, h1, _⟩ := h
  have := h1.lt
  omega
theorem mk_is {w : World} {base g : Nat} {codes : List (List Mac)} {s' : Mch} {mem : List Int} {calls : List Fr} {input out : List Int} {cv mv lv iv ov : Value} {ps : List Nat} (hg : base ≤ g)
    (h : Blk w g 102 (machCells cv mv lv iv ov s').toArray ∧ MRest w base codes mem calls input out cv mv lv iv ov ps) (e1 : s'.mem = mem) (e2 : s'.calls = calls) (e3 : s'.input = input) (e4 : s'.out = out) : MachIs w base g codes s' := by
  subst e1 e2 e3 e4
  exact ⟨hg, cv, mv, lv, iv, ov, ps, h.1, h.2⟩
theorem MachIs.drew {w : World} {base g : Nat} {codes : List (List Mac)} {s : Mch} (h : MachIs w base g codes s) : MachIs w.drew base g codes s := h.below (below_drew (Below.refl _ _))
theorem MachIs.drewN {w : World} {base g : Nat} {codes : List (List Mac)} {s : Mch} (h : MachIs w base g codes s) (n : Nat) : MachIs (w.drewN n) base g codes s := h.below (below_drewN (Below.refl _ _) n)
theorem pair_below {w w' : World} {base g : Nat} {codes : List (List Mac)} {mem : List Int} {calls : List Fr} {input out : List Int} {cv mv lv iv ov : Value} {ps : List Nat} {ms : Array Value} (hg : base ≤ g)
    (h : Blk w g 102 ms ∧ MRest w base codes mem calls input out cv mv lv iv ov ps) (hb : Below w.heap.size w w') : Blk w' g 102 ms ∧ MRest w' base codes mem calls input out cv mv lv iv ov ps :=
  ⟨h.1.below hb h.1.lt, h.2.below (by have := h.1.lt; omega) hb⟩
theorem pair_drewN {w : World} {base g : Nat} {codes : List (List Mac)} {mem : List Int} {calls : List Fr} {input out : List Int} {cv mv lv iv ov : Value} {ps : List Nat} {ms : Array Value} (hg : base ≤ g)
    (h : Blk w g 102 ms ∧ MRest w base codes mem calls input out cv mv lv iv ov ps) (n : Nat) : Blk (w.drewN n) g 102 ms ∧ MRest (w.drewN n) base codes mem calls input out cv mv lv iv ov ps :=
  pair_below hg h (below_drewN (Below.refl _ _) n)
theorem xor_not (x : Int) : bits .xor .i64 (-1) x = wrap64 (-x - 1) := by
  have h : bits .xor .i64 (-1) x = IntKind.i64.wrap ((BitVec.ofInt 64 (-1) ^^^ BitVec.ofInt 64 x).toNat : Int) := rfl
  rw [h, show BitVec.ofInt 64 (-1) = BitVec.allOnes 64 by decide, BitVec.allOnes_xor, BitVec.toNat_not, IntKind.wrap_i64, wrap64]
  have h1 : ((BitVec.ofInt 64 x).toNat : Int) = x % 18446744073709551616 := by rw [BitVec.toNat_ofInt]; omega
  have h2 := (BitVec.ofInt 64 x).isLt
  omega
def macV (m : Mac) : Value := .agg #[.int .i64 m.op, .int .i64 m.dst, .int .i64 m.a, .int .i64 m.b, .int .i64 m.n]
set_option maxHeartbeats 1000000 in
theorem moves_1 (dst a b n : Int) (w : World) (base g p : Nat) (codes : List (List Mac)) (s : Mch) (c : Fr) (cs : List Fr) (h : MachTop w base g codes s c cs p) (hr : s.regs.length = 16) (d1 : 0 ≤ dst) (d2 : dst < 16) :
    Calls Tryd.prog 76 #[.pointer (some ⟨g, 0, none⟩), macV ⟨1, dst, a, b, n⟩, .pointer (some ⟨p, 0, none⟩)] w (MachPost w base g codes (movesS ⟨1, dst, a, b, n⟩ c cs s) (.tuple #[])) := by
  obtain ⟨dn, rfl⟩ := Int.eq_ofNat_of_zero_le d1
  have hdn : dn < 16 := by omega
  have hA : Below w.heap.size w (w.alloc (.cells #[.int .i64 1, .int .i64 (dn : Int), .int .i64 a, .int .i64 b, .int .i64 n] 24)) := (Below.refl _ _).alloc (Nat.le_refl _) _
  have hk := Blk.new w 24 #[.int .i64 1, .int .i64 (dn : Int), .int .i64 a, .int .i64 b, .int .i64 n]
  have HM := Lib.hid (h.below hA)
  have HZ := Lib.hid h.size
  have HA := Lib.hid hA
  have HK := Lib.hid hk
  have Hr := Lib.hid hr
  clear hA hk h hr
  unfold macV
  simp only
  go_enter Tryd.func76, Tryd.ntmps76
  go_wp2_with fail
  generalize w.alloc (.cells #[.int .i64 1, .int .i64 (dn : Int), .int .i64 a, .int .i64 b, .int .i64 n] 24) = w1 at *
  generalize w.heap.size = gk at *
  have k0 := HK.out.cell 0
  have k1 := HK.out.cell 1
  have k2 := HK.out.cell 2
  have k3 := HK.out.cell 3
  have k4 := HK.out.cell 4
  obtain ⟨hg, hs, cv, mv, lv, iv, ov, ps, h⟩ := HM.out
  have cd := (h.1.cell (1 + dn)).trans (mach_reg Hr.out hdn)
  have fd := h.1.frozen (1 + dn)
  have H := Lib.hid h
  have Hs := Lib.hid hs
  clear h hs
  go_region
  all_goals
    go_wp2_with fail
    go_end0
    exact ⟨rfl, (mk_is hg (mset H.out hg (mach_set_reg dn _ Hr.out hdn)) rfl Hs.out rfl rfl).drew, below_drew ((HA.out.mono HZ.out).setCell hg _)⟩
set_option maxHeartbeats 1000000 in
theorem moves_2 (dst a b n : Int) (w : World) (base g p : Nat) (codes : List (List Mac)) (s : Mch) (c : Fr) (cs : List Fr) (h : MachTop w base g codes s c cs p) (hr : s.regs.length = 16) (d1 : 0 ≤ dst) (d2 : dst < 16) (a1 : 0 ≤ a) (a2 : a < 16) :
    Calls Tryd.prog 76 #[.pointer (some ⟨g, 0, none⟩), macV ⟨2, dst, a, b, n⟩, .pointer (some ⟨p, 0, none⟩)] w (MachPost w base g codes (movesS ⟨2, dst, a, b, n⟩ c cs s) (.tuple #[])) := by
  obtain ⟨dn, rfl⟩ := Int.eq_ofNat_of_zero_le d1
  have hdn : dn < 16 := by omega
  obtain ⟨an, rfl⟩ := Int.eq_ofNat_of_zero_le a1
  have han : an < 16 := by omega
  have hA : Below w.heap.size w (w.alloc (.cells #[.int .i64 2, .int .i64 (dn : Int), .int .i64 (an : Int), .int .i64 b, .int .i64 n] 24)) := (Below.refl _ _).alloc (Nat.le_refl _) _
  have hk := Blk.new w 24 #[.int .i64 2, .int .i64 (dn : Int), .int .i64 (an : Int), .int .i64 b, .int .i64 n]
  have HM := Lib.hid (h.below hA)
  have HZ := Lib.hid h.size
  have HA := Lib.hid hA
  have HK := Lib.hid hk
  have Hr := Lib.hid hr
  clear hA hk h hr
  unfold macV
  simp only
  go_enter Tryd.func76, Tryd.ntmps76
  go_wp2_with fail
  generalize w.alloc (.cells #[.int .i64 2, .int .i64 (dn : Int), .int .i64 (an : Int), .int .i64 b, .int .i64 n] 24) = w1 at *
  generalize w.heap.size = gk at *
  have k0 := HK.out.cell 0
  have k1 := HK.out.cell 1
  have k2 := HK.out.cell 2
  have k3 := HK.out.cell 3
  have k4 := HK.out.cell 4
  obtain ⟨hg, hs, cv, mv, lv, iv, ov, ps, h⟩ := HM.out
  have cd := (h.1.cell (1 + dn)).trans (mach_reg Hr.out hdn)
  have fd := h.1.frozen (1 + dn)
  have ca := (h.1.cell (1 + an)).trans (mach_reg Hr.out han)
  have H := Lib.hid h
  have Hs := Lib.hid hs
  clear h hs
  go_region
  all_goals
    go_wp2_with fail
    go_end0
    exact ⟨rfl, (mk_is hg (mset H.out hg (mach_set_reg dn _ Hr.out hdn)) rfl Hs.out rfl rfl).drew, below_drew ((HA.out.mono HZ.out).setCell hg _)⟩
set_option maxHeartbeats 1000000 in
theorem moves_3 (dst a b n : Int) (w : World) (base g p : Nat) (codes : List (List Mac)) (s : Mch) (c : Fr) (cs : List Fr) (h : MachTop w base g codes s c cs p) (hr : s.regs.length = 16) (d1 : 0 ≤ dst) (d2 : dst < 16) (a1 : 0 ≤ a) (a2 : a < 16) :
    Calls Tryd.prog 76 #[.pointer (some ⟨g, 0, none⟩), macV ⟨3, dst, a, b, n⟩, .pointer (some ⟨p, 0, none⟩)] w (MachPost w base g codes (movesS ⟨3, dst, a, b, n⟩ c cs s) (.tuple #[])) := by
  obtain ⟨dn, rfl⟩ := Int.eq_ofNat_of_zero_le d1
  have hdn : dn < 16 := by omega
  obtain ⟨an, rfl⟩ := Int.eq_ofNat_of_zero_le a1
  have han : an < 16 := by omega
  have hA : Below w.heap.size w (w.alloc (.cells #[.int .i64 3, .int .i64 (dn : Int), .int .i64 (an : Int), .int .i64 b, .int .i64 n] 24)) := (Below.refl _ _).alloc (Nat.le_refl _) _
  have hk := Blk.new w 24 #[.int .i64 3, .int .i64 (dn : Int), .int .i64 (an : Int), .int .i64 b, .int .i64 n]
  have HM := Lib.hid (h.below hA)
  have HZ := Lib.hid h.size
  have HA := Lib.hid hA
  have HK := Lib.hid hk
  have Hr := Lib.hid hr
  clear hA hk h hr
  unfold macV
  simp only
  go_enter Tryd.func76, Tryd.ntmps76
  go_wp2_with fail
  generalize w.alloc (.cells #[.int .i64 3, .int .i64 (dn : Int), .int .i64 (an : Int), .int .i64 b, .int .i64 n] 24) = w1 at *
  generalize w.heap.size = gk at *
  have k0 := HK.out.cell 0
  have k1 := HK.out.cell 1
  have k2 := HK.out.cell 2
  have k3 := HK.out.cell 3
  have k4 := HK.out.cell 4
  obtain ⟨hg, hs, cv, mv, lv, iv, ov, ps, h⟩ := HM.out
  have cd := (h.1.cell (1 + dn)).trans (mach_reg Hr.out hdn)
  have fd := h.1.frozen (1 + dn)
  have ca := (h.1.cell (1 + an)).trans (mach_reg Hr.out han)
  have H := Lib.hid h
  have Hs := Lib.hid hs
  clear h hs
  go_region
  all_goals
    go_wp2_with fail
    go_end0
    exact ⟨rfl, (mk_is hg (mset H.out hg (mach_set_reg dn _ Hr.out hdn)) rfl Hs.out rfl rfl).drew, below_drew ((HA.out.mono HZ.out).setCell hg _)⟩
set_option maxHeartbeats 1000000 in
theorem moves_4 (dst a b n : Int) (w : World) (base g p : Nat) (codes : List (List Mac)) (s : Mch) (c : Fr) (cs : List Fr) (h : MachTop w base g codes s c cs p) (hr : s.regs.length = 16) (d1 : 0 ≤ dst) (d2 : dst < 16) (a1 : 0 ≤ a) (a2 : a < 16) :
    Calls Tryd.prog 76 #[.pointer (some ⟨g, 0, none⟩), macV ⟨4, dst, a, b, n⟩, .pointer (some ⟨p, 0, none⟩)] w (MachPost w base g codes (movesS ⟨4, dst, a, b, n⟩ c cs s) (.tuple #[])) := by
  obtain ⟨dn, rfl⟩ := Int.eq_ofNat_of_zero_le d1
  have hdn : dn < 16 := by omega
  obtain ⟨an, rfl⟩ := Int.eq_ofNat_of_zero_le a1
  have han : an < 16 := by omega
  have hA : Below w.heap.size w (w.alloc (.cells #[.int .i64 4, .int .i64 (dn : Int), .int .i64 (an : Int), .int .i64 b, .int .i64 n] 24)) := (Below.refl _ _).alloc (Nat.le_refl _) _
  have hk := Blk.new w 24 #[.int .i64 4, .int .i64 (dn : Int), .int .i64 (an : Int), .int .i64 b, .int .i64 n]
  have HM := Lib.hid (h.below hA)
  have HZ := Lib.hid h.size
  have HA := Lib.hid hA
  have HK := Lib.hid hk
  have Hr := Lib.hid hr
  clear hA hk h hr
  unfold macV
  simp only
  go_enter Tryd.func76, Tryd.ntmps76
  go_wp2_with fail
  generalize w.alloc (.cells #[.int .i64 4, .int .i64 (dn : Int), .int .i64 (an : Int), .int .i64 b, .int .i64 n] 24) = w1 at *
  generalize w.heap.size = gk at *
  have k0 := HK.out.cell 0
  have k1 := HK.out.cell 1
  have k2 := HK.out.cell 2
  have k3 := HK.out.cell 3
  have k4 := HK.out.cell 4
  obtain ⟨hg, hs, cv, mv, lv, iv, ov, ps, h⟩ := HM.out
  have cd := (h.1.cell (1 + dn)).trans (mach_reg Hr.out hdn)
  have fd := h.1.frozen (1 + dn)
  have ca := (h.1.cell (1 + an)).trans (mach_reg Hr.out han)
  have H := Lib.hid h
  have Hs := Lib.hid hs
  clear h hs
  obtain ⟨x, hx⟩ : ∃ x, s.regs.getD an 0 = x := ⟨_, rfl⟩
  have HX := Lib.hid hx
  rw [hx] at ca
  clear hx
  go_region
  all_goals
    go_wp2_with fail
    go_end0
    refine ⟨rfl, ?_, below_drew ((HA.out.mono HZ.out).setCell hg _)⟩
    have e : movesS ⟨4, (dn : Int), (an : Int), b, n⟩ c cs s = { s with regs := s.regs.set dn (bits .xor .i64 (-1) x) } := by rw [xor_not, ← HX.out]; rfl
    rw [e]
    exact (mk_is hg (mset H.out hg (mach_set_reg dn _ Hr.out hdn)) rfl Hs.out rfl rfl).drew
set_option maxHeartbeats 1000000 in
theorem moves_33 (dst a b n : Int) (w : World) (base g p : Nat) (codes : List (List Mac)) (s : Mch) (c : Fr) (cs : List Fr) (h : MachTop w base g codes s c cs p) (hr : s.regs.length = 16) (d1 : 0 ≤ dst) (d2 : dst < 16) (a1 : 0 ≤ a) (a2 : a < 16) :
    Calls Tryd.prog 76 #[.pointer (some ⟨g, 0, none⟩), macV ⟨33, dst, a, b, n⟩, .pointer (some ⟨p, 0, none⟩)] w (MachPost w base g codes (movesS ⟨33, dst, a, b, n⟩ c cs s) (.tuple #[])) := by
  obtain ⟨dn, rfl⟩ := Int.eq_ofNat_of_zero_le d1
  have hdn : dn < 16 := by omega
  obtain ⟨an, rfl⟩ := Int.eq_ofNat_of_zero_le a1
  have han : an < 16 := by omega
  have hA : Below w.heap.size w (w.alloc (.cells #[.int .i64 33, .int .i64 (dn : Int), .int .i64 (an : Int), .int .i64 b, .int .i64 n] 24)) := (Below.refl _ _).alloc (Nat.le_refl _) _
  have hk := Blk.new w 24 #[.int .i64 33, .int .i64 (dn : Int), .int .i64 (an : Int), .int .i64 b, .int .i64 n]
  have HM := Lib.hid (h.below hA)
  have HZ := Lib.hid h.size
  have HA := Lib.hid hA
  have HK := Lib.hid hk
  have Hr := Lib.hid hr
  clear hA hk h hr
  unfold macV
  simp only
  go_enter Tryd.func76, Tryd.ntmps76
  go_wp2_with fail
  generalize w.alloc (.cells #[.int .i64 33, .int .i64 (dn : Int), .int .i64 (an : Int), .int .i64 b, .int .i64 n] 24) = w1 at *
  generalize w.heap.size = gk at *
  have k0 := HK.out.cell 0
  have k1 := HK.out.cell 1
  have k2 := HK.out.cell 2
  have k3 := HK.out.cell 3
  have k4 := HK.out.cell 4
  obtain ⟨hg, hs, cv, mv, lv, iv, ov, ps, h⟩ := HM.out
  have cd := (h.1.cell (1 + dn)).trans (mach_reg Hr.out hdn)
  have fd := h.1.frozen (1 + dn)
  have ca := (h.1.cell (1 + an)).trans (mach_reg Hr.out han)
  have H := Lib.hid h
  have Hs := Lib.hid hs
  clear h hs
  obtain ⟨x, hx⟩ : ∃ x, s.regs.getD an 0 = x := ⟨_, rfl⟩
  have HX := Lib.hid hx
  rw [hx] at ca
  obtain ⟨q, hq⟩ : ∃ q, wrap64 (x + n) = q := ⟨_, rfl⟩
  have HQ : Hid (wrap64 (s.reg (an : Int) + n) = q) := Lib.hid (by rw [show s.reg (an : Int) = x from hx]; exact hq)
  clear hx
  by_cases hp : 0 ≤ q ∧ q < (s.mem.length : Int)
  · obtain ⟨p1, p2⟩ := hp
    have HP : Hid (0 ≤ q ∧ q < (s.mem.length : Int)) := Lib.hid ⟨p1, p2⟩
    obtain ⟨qn, rfl⟩ := Int.eq_ofNat_of_zero_le p1
    have hqn : qn < s.mem.length := by omega
    obtain ⟨bm, cm, hmv, hcm0, hcm⟩ := row_some H.out.2.hmem (by omega)
    subst hmv
    obtain ⟨c34, f34⟩ := mem_cell H.out.2 hqn
    obtain ⟨y, hy⟩ : ∃ y, s.mem.getD qn 0 = y := ⟨_, rfl⟩
    have HY := Lib.hid hy
    rw [hy] at c34
    have c17 := (H.out.1.cell 17).trans (mach_tail Hr.out 0)
    simp only [List.getElem?_cons_zero] at c17
    have Hqn := Lib.hid hqn
    clear hy
    go_quiet (fail)
    rw [hq]
    go_wp2_with fail
    refine (place_yes _ _ base g codes s (HM.out.is.drewN _) Hr.out p1 p2).mono ?_
    rintro e w' ⟨rfl, rfl⟩
    go_wp2_with fail
    go_region
    all_goals
      go_wp2_with fail
      go_end0
      have e : movesS ⟨33, (dn : Int), (an : Int), b, n⟩ c cs s = { s with regs := s.regs.set dn (s.mem.getD qn 0) } := by unfold movesS loadS; simp only [HQ.out]; rw [if_pos HP.out]; rfl
      refine ⟨rfl, ?_, ?_⟩
      · rw [e]
        rw [HY.out]
        exact (mk_is hg (mset (pair_drewN hg H.out _) hg (mach_set_reg dn y Hr.out hdn)) rfl Hs.out rfl rfl)
      · exact (below_drewN (HA.out.mono HZ.out) _).setCell hg _
  · have HP := Lib.hid hp
    clear hp
    go_quiet (fail)
    rw [hq]
    go_wp2_with fail
    refine (place_no q _ base g codes s (HM.out.is.drewN _) Hr.out HP.out).mono ?_
    rintro e w' ⟨rfl, hm, hb⟩
    have HM2 := Lib.hid hm
    have HB2 := Lib.hid hb
    clear hm hb
    go_wp2_with fail
    go_end0
    refine ⟨rfl, ?_, (below_drewN (HA.out.mono HZ.out) _).trans HB2.out⟩
    have e : movesS ⟨33, (dn : Int), (an : Int), b, n⟩ c cs s = s.ends 3 := by unfold movesS loadS; simp only [HQ.out]; rw [if_neg HP.out]; rfl
    rw [e]
    exact HM2.out
set_option maxHeartbeats 1000000 in
theorem moves_34 (dst a b n : Int) (w : World) (base g p : Nat) (codes : List (List Mac)) (s : Mch) (c : Fr) (cs : List Fr) (h : MachTop w base g codes s c cs p) (hr : s.regs.length = 16) (a1 : 0 ≤ a) (a2 : a < 16) (b1 : 0 ≤ b) (b2 : b < 16) :
    Calls Tryd.prog 76 #[.pointer (some ⟨g, 0, none⟩), macV ⟨34, dst, a, b, n⟩, .pointer (some ⟨p, 0, none⟩)] w (MachPost w base g codes (movesS ⟨34, dst, a, b, n⟩ c cs s) (.tuple #[])) := by
  obtain ⟨an, rfl⟩ := Int.eq_ofNat_of_zero_le a1
  have han : an < 16 := by omega
  obtain ⟨bn, rfl⟩ := Int.eq_ofNat_of_zero_le b1
  have hbn : bn < 16 := by omega
  have hA : Below w.heap.size w (w.alloc (.cells #[.int .i64 34, .int .i64 dst, .int .i64 (an : Int), .int .i64 (bn : Int), .int .i64 n] 24)) := (Below.refl _ _).alloc (Nat.le_refl _) _
  have hk := Blk.new w 24 #[.int .i64 34, .int .i64 dst, .int .i64 (an : Int), .int .i64 (bn : Int), .int .i64 n]
  have HM := Lib.hid (h.below hA)
  have HZ := Lib.hid h.size
  have HA := Lib.hid hA
  have HK := Lib.hid hk
  have Hr := Lib.hid hr
  clear hA hk h hr
  unfold macV
  simp only
  go_enter Tryd.func76, Tryd.ntmps76
  go_wp2_with fail
  generalize w.alloc (.cells #[.int .i64 34, .int .i64 dst, .int .i64 (an : Int), .int .i64 (bn : Int), .int .i64 n] 24) = w1 at *
  generalize w.heap.size = gk at *
  have k0 := HK.out.cell 0
  have k1 := HK.out.cell 1
  have k2 := HK.out.cell 2
  have k3 := HK.out.cell 3
  have k4 := HK.out.cell 4
  obtain ⟨hg, hs, cv, mv, lv, iv, ov, ps, h⟩ := HM.out
  have ca := (h.1.cell (1 + an)).trans (mach_reg Hr.out han)
  have cb := (h.1.cell (1 + bn)).trans (mach_reg Hr.out hbn)
  have H := Lib.hid h
  have Hs := Lib.hid hs
  clear h hs
  obtain ⟨x, hx⟩ : ∃ x, s.regs.getD an 0 = x := ⟨_, rfl⟩
  have HX := Lib.hid hx
  rw [hx] at ca
  obtain ⟨z, hz⟩ : ∃ z, s.regs.getD bn 0 = z := ⟨_, rfl⟩
  have HZ2 := Lib.hid hz
  rw [hz] at cb
  clear hz
  obtain ⟨q, hq⟩ : ∃ q, wrap64 (x + n) = q := ⟨_, rfl⟩
  have HQ : Hid (wrap64 (s.reg (an : Int) + n) = q) := Lib.hid (by rw [show s.reg (an : Int) = x from hx]; exact hq)
  clear hx
  by_cases hp : 0 ≤ q ∧ q < (s.mem.length : Int)
  · obtain ⟨p1, p2⟩ := hp
    have HP : Hid (0 ≤ q ∧ q < (s.mem.length : Int)) := Lib.hid ⟨p1, p2⟩
    obtain ⟨qn, rfl⟩ := Int.eq_ofNat_of_zero_le p1
    have hqn : qn < s.mem.length := by omega
    obtain ⟨bm, cm, hmv, hcm0, hcm⟩ := row_some H.out.2.hmem (by omega)
    subst hmv
    obtain ⟨c34, f34⟩ := mem_cell H.out.2 hqn
    obtain ⟨y, hy⟩ : ∃ y, s.mem.getD qn 0 = y := ⟨_, rfl⟩
    have HY := Lib.hid hy
    rw [hy] at c34
    have c17 := (H.out.1.cell 17).trans (mach_tail Hr.out 0)
    simp only [List.getElem?_cons_zero] at c17
    have Hqn := Lib.hid hqn
    clear hy
    go_quiet (fail)
    rw [hq]
    go_wp2_with fail
    refine (place_yes _ _ base g codes s (HM.out.is.drewN _) Hr.out p1 p2).mono ?_
    rintro e w' ⟨rfl, rfl⟩
    go_wp2_with fail
    go_region
    all_goals
      go_wp2_with fail
      go_end0
      have e : movesS ⟨34, dst, (an : Int), (bn : Int), n⟩ c cs s = { s with mem := s.mem.set qn (s.regs.getD bn 0) } := by unfold movesS storeS; simp only [HQ.out]; rw [if_pos HP.out]; rfl
      refine ⟨rfl, ?_, ?_⟩
      · rw [e]
        rw [HZ2.out]
        have h2 := MRest.setmem (k := qn) (pair_drewN hg H.out (nq + 1)).2 (pair_drewN hg H.out (nq + 1)).1 z
        exact mk_is hg h2 rfl Hs.out rfl rfl
      · exact (below_drewN (HA.out.mono HZ.out) _).setCell (row_blk H.out.2.hmem).1 _
  · have HP := Lib.hid hp
    clear hp
    go_quiet (fail)
    rw [hq]
    go_wp2_with fail
    refine (place_no q _ base g codes s (HM.out.is.drewN _) Hr.out HP.out).mono ?_
    rintro e w' ⟨rfl, hm, hb⟩
    have HM2 := Lib.hid hm
    have HB2 := Lib.hid hb
    clear hm hb
    go_wp2_with fail
    go_end0
    refine ⟨rfl, ?_, (below_drewN (HA.out.mono HZ.out) _).trans HB2.out⟩
    have e : movesS ⟨34, dst, (an : Int), (bn : Int), n⟩ c cs s = s.ends 3 := by unfold movesS storeS; simp only [HQ.out]; rw [if_neg HP.out]; rfl
    rw [e]
    exact HM2.out
set_option maxHeartbeats 1000000 in
theorem moves_35 (dst a b n : Int) (w : World) (base g p : Nat) (codes : List (List Mac)) (s : Mch) (c : Fr) (cs : List Fr) (h : MachTop w base g codes s c cs p) (hr : s.regs.length = 16) (d1 : 0 ≤ dst) (d2 : dst < 16) (n1 : 0 ≤ n) (n2 : n < 120) (hw : c.ws.length = 120) :
    Calls Tryd.prog 76 #[.pointer (some ⟨g, 0, none⟩), macV ⟨35, dst, a, b, n⟩, .pointer (some ⟨p, 0, none⟩)] w (MachPost w base g codes (movesS ⟨35, dst, a, b, n⟩ c cs s) (.tuple #[])) := by
  obtain ⟨dn, rfl⟩ := Int.eq_ofNat_of_zero_le d1
  have hdn : dn < 16 := by omega
  obtain ⟨nn, rfl⟩ := Int.eq_ofNat_of_zero_le n1
  have hnn : nn < 120 := by omega
  have hA : Below w.heap.size w (w.alloc (.cells #[.int .i64 35, .int .i64 (dn : Int), .int .i64 a, .int .i64 b, .int .i64 (nn : Int)] 24)) := (Below.refl _ _).alloc (Nat.le_refl _) _
  have hk := Blk.new w 24 #[.int .i64 35, .int .i64 (dn : Int), .int .i64 a, .int .i64 b, .int .i64 (nn : Int)]
  have HM := Lib.hid (h.below hA)
  have HZ := Lib.hid h.size
  have HA := Lib.hid hA
  have HK := Lib.hid hk
  have Hr := Lib.hid hr
  clear hA hk h hr
  unfold macV
  simp only
  go_enter Tryd.func76, Tryd.ntmps76
  go_wp2_with fail
  generalize w.alloc (.cells #[.int .i64 35, .int .i64 (dn : Int), .int .i64 a, .int .i64 b, .int .i64 (nn : Int)] 24) = w1 at *
  generalize w.heap.size = gk at *
  have k0 := HK.out.cell 0
  have k1 := HK.out.cell 1
  have k2 := HK.out.cell 2
  have k3 := HK.out.cell 3
  have k4 := HK.out.cell 4
  obtain ⟨hg, hs, cv, mv, lv, iv, ov, ps, h⟩ := HM.out
  have cd := (h.1.cell (1 + dn)).trans (mach_reg Hr.out hdn)
  have fd := h.1.frozen (1 + dn)
  have cn := (h.2.top.2.cell (2 + nn)).trans (fr_ws c (by omega))
  have H := Lib.hid h
  have Hs := Lib.hid hs
  clear h hs
  obtain ⟨y, hy⟩ : ∃ y, c.ws.getD nn 0 = y := ⟨_, rfl⟩
  have HY := Lib.hid hy
  rw [hy] at cn
  clear hy
  go_region
  all_goals
    go_wp2_with fail
    go_end0
    refine ⟨rfl, ?_, below_drew ((HA.out.mono HZ.out).setCell hg _)⟩
    have e : movesS ⟨35, (dn : Int), a, b, (nn : Int)⟩ c cs s = { s with regs := s.regs.set dn y } := by rw [← HY.out]; rfl
    rw [e]
    exact (mk_is hg (mset H.out hg (mach_set_reg dn y Hr.out hdn)) rfl Hs.out rfl rfl).drew
set_option maxHeartbeats 1000000 in
theorem moves_36 (dst a b n : Int) (w : World) (base g p : Nat) (codes : List (List Mac)) (s : Mch) (c : Fr) (cs : List Fr) (h : MachTop w base g codes s c cs p) (hr : s.regs.length = 16) (a1 : 0 ≤ a) (a2 : a < 16) (n1 : 0 ≤ n) (n2 : n < 120) (hw : c.ws.length = 120) :
    Calls Tryd.prog 76 #[.pointer (some ⟨g, 0, none⟩), macV ⟨36, dst, a, b, n⟩, .pointer (some ⟨p, 0, none⟩)] w (MachPost w base g codes (movesS ⟨36, dst, a, b, n⟩ c cs s) (.tuple #[])) := by
  obtain ⟨an, rfl⟩ := Int.eq_ofNat_of_zero_le a1
  have han : an < 16 := by omega
  obtain ⟨nn, rfl⟩ := Int.eq_ofNat_of_zero_le n1
  have hnn : nn < 120 := by omega
  have hA : Below w.heap.size w (w.alloc (.cells #[.int .i64 36, .int .i64 dst, .int .i64 (an : Int), .int .i64 b, .int .i64 (nn : Int)] 24)) := (Below.refl _ _).alloc (Nat.le_refl _) _
  have hk := Blk.new w 24 #[.int .i64 36, .int .i64 dst, .int .i64 (an : Int), .int .i64 b, .int .i64 (nn : Int)]
  have HM := Lib.hid (h.below hA)
  have HZ := Lib.hid h.size
  have HA := Lib.hid hA
  have HK := Lib.hid hk
  have Hr := Lib.hid hr
  clear hA hk h hr
  unfold macV
  simp only
  go_enter Tryd.func76, Tryd.ntmps76
  go_wp2_with fail
  generalize w.alloc (.cells #[.int .i64 36, .int .i64 dst, .int .i64 (an : Int), .int .i64 b, .int .i64 (nn : Int)] 24) = w1 at *
  generalize w.heap.size = gk at *
  have k0 := HK.out.cell 0
  have k1 := HK.out.cell 1
  have k2 := HK.out.cell 2
  have k3 := HK.out.cell 3
  have k4 := HK.out.cell 4
  obtain ⟨hg, hs, cv, mv, lv, iv, ov, ps, h⟩ := HM.out
  have ca := (h.1.cell (1 + an)).trans (mach_reg Hr.out han)
  have cn := (h.2.top.2.cell (2 + nn)).trans (fr_ws c (by omega))
  have fn := h.2.top.2.frozen (2 + nn)
  have H := Lib.hid h
  have Hs := Lib.hid hs
  clear h hs
  obtain ⟨y, hy⟩ : ∃ y, s.regs.getD an 0 = y := ⟨_, rfl⟩
  have HY := Lib.hid hy
  rw [hy] at ca
  clear hy
  go_region
  all_goals
    go_wp2_with fail
    go_end0
    have h2 := MRest.setp H.out.2 H.out.1 _ (fr_set_ws c nn y)
    refine ⟨rfl, ?_, below_drew ((HA.out.mono HZ.out).setCell H.out.2.top.1 _)⟩
    have e : movesS ⟨36, dst, (an : Int), b, (nn : Int)⟩ c cs s = { s with calls := { c with ws := c.ws.set nn y } :: cs } := by rw [← HY.out]; rfl
    rw [e]
    refine MachIs.drew ?_
    exact mk_is hg h2 rfl rfl rfl rfl
/-- moves, whatever the Op. -/
theorem moves_any (m : Mac) (len rts : Nat) (w : World) (base g p : Nat) (codes : List (List Mac)) (s : Mch) (c : Fr) (cs : List Fr) (h : MachTop w base g codes s c cs p) (hr : s.regs.length = 16) (hw : c.ws.length = 120) (hm : GoodM m len rts) (h1 : ¬ (5 ≤ m.op ∧ m.op ≤ 32)) (h2 : m.op < 37) :
    Calls Tryd.prog 76 #[.pointer (some ⟨g, 0, none⟩), macV m, .pointer (some ⟨p, 0, none⟩)] w (MachPost w base g codes (movesS m c cs s) (.tuple #[])) := by
  obtain ⟨op, dst, a, b, n⟩ := m
  obtain ⟨o1, o2, d1, d2, a1, a2, b1, b2, hn, _, _⟩ := hm
  simp only at o1 o2 d1 d2 a1 a2 b1 b2 hn h1 h2
  obtain rfl | rfl | rfl | rfl | rfl | rfl | rfl | rfl : op = 1 ∨ op = 2 ∨ op = 3 ∨ op = 4 ∨ op = 33 ∨ op = 34 ∨ op = 35 ∨ op = 36 := by omega
  · exact moves_1 dst a b n w base g p codes s c cs h hr d1 d2
  · exact moves_2 dst a b n w base g p codes s c cs h hr d1 d2 a1 a2
  · exact moves_3 dst a b n w base g p codes s c cs h hr d1 d2 a1 a2
  · exact moves_4 dst a b n w base g p codes s c cs h hr d1 d2 a1 a2
  · exact moves_33 dst a b n w base g p codes s c cs h hr d1 d2 a1 a2
  · exact moves_34 dst a b n w base g p codes s c cs h hr a1 a2 b1 b2
  · have := hn (by omega)
    exact moves_35 dst a b n w base g p codes s c cs h hr d1 d2 this.1 this.2 hw
  · have := hn (by omega)
    exact moves_36 dst a b n w base g p codes s c cs h hr a1 a2 this.1 this.2 hw
end Go.Proofs.YtkiaffaieniebaaDoor
