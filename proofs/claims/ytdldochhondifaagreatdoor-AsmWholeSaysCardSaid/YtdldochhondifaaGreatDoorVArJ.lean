/-
  Texts of the claim AsmWholeSays (ArJ): what each proves stands at its theorems.
  Conditions: as the theorems say.
-/
import Derived.StillTailTactics
import Derived.Test.YtdldochhondifaaGreatDoorVArI
namespace Go.Proofs.YtdldochhondifaaGreatDoor
open Go.RowKit
attribute [local go_sem] Oper.semAt_some

def goalOf (i : Nat) (x : Ins) : List (Nat × List UInt8) := match x.goal with
  | some g => [(i, Lib.itoa g)]
  | none => []
def callOf (i : Nat) (x : Ins) : List (Nat × List UInt8) := match x.call with
  | some s => [(i, s)]
  | none => []
/-- What take leaves. -/
def TakePost (w : World) (base bx : Nat) (nm : List UInt8) (ms : List Mac) (labs : List (Int × Nat)) (gs ks : List (Nat × List UInt8)) (cv : Value) (lb : Nat) (gv kv : Value) (r : Option Ins) (e : Ending) (w' : World) : Prop :=
  e = .returned (.bool r.isSome) ∧ OutS (InSec bx lb cv gv kv) w w' ∧ ∀ x, r = some x → ∃ cv' gv' kv', SecM w' base bx nm (ms ++ [x.m]) labs (gs ++ goalOf ms.length x) (ks ++ callOf ms.length x) cv' lb gv' kv' ∧ ∀ k, InSec bx lb cv' gv' kv' k → InSec bx lb cv gv kv k ∨ w.heap.size ≤ k
theorem below_dr (w : World) : Below w.heap.size w w.drew := ⟨rfl, rfl, rfl, Nat.le_refl _, fun _ _ => rfl⟩
/-- What the last part leaves: nothing told, or an instruction told. -/
def PartCut (w : World) (base bx : Nat) (nm : List UInt8) (ms : List Mac) (labs : List (Int × Nat)) (gs ks : List (Nat × List UInt8)) (cv : Value) (lb : Nat) (gv kv : Value) (bm : Nat) (r : Option Ins) (b : Bool) (wx : World) : Prop :=
  (b = true → r = none ∧ OutS (InSec bx lb cv gv kv) w wx) ∧
  (b = false → ∃ x gv' kv', r = some x ∧ SecM wx base bx nm ms labs (gs ++ goalOf ms.length x) (ks ++ callOf ms.length x) cv lb gv' kv' ∧ Blk wx bm 39 x.m.cells.toArray ∧ OutS (InSec bx lb cv gv kv) w wx ∧ ∀ k, InSec bx lb cv gv' kv' k → InSec bx lb cv gv kv k ∨ w.heap.size ≤ k)
/-- A row of pointers into block bm. -/
def ptrsOf (bm : Nat) (os : List Nat) : List Value := os.map fun o => Value.pointer (some ⟨bm, o, none⟩)
def OwnPt (w : World) (base bm : Nat) (v : Value) (os : List Nat) : Prop := w.ownsRow base 160 1 v os.length (ptrsOf bm os)
theorem OwnPt.snoc {w : World} {base bm : Nat} {v : Value} {os : List Nat} {o : Nat} (h : w.ownsRow base 160 1 v (os.length + 1) (ptrsOf bm os ++ [.pointer (some ⟨bm, o, none⟩)])) : OwnPt w base bm v (os ++ [o]) := by
  unfold OwnPt ptrsOf at *
  rw [List.length_append, List.map_append]
  exact h
theorem infoPt : (Tryz.prog.info? 160).map (fun i => (i.zero, i.size, i.bytes)) = some (some (.pointer none), 1, 8) := by kernel_rfl
theorem own_builtP (w : World) (bm : Nat) : OwnPt (w.alloc (.cells #[] 160)) w.heap.size bm (.slice (some ⟨w.heap.size, 0, none⟩) 0 0) [] :=
  ⟨rfl, .inr ⟨w.heap.size, 0, #[], rfl, Nat.le_refl _, heap_alloc_new w _, Nat.le_refl _, by unfold maxLen; omega, rfl, rfl⟩⟩
/-- The offsets of the used registers among the first k. -/
def offsTo (d a b : Bool) : Nat → List Nat
  | 0 => []
  | 1 => if d then [1] else []
  | 2 => (if d then [1] else []) ++ (if a then [2] else [])
  | _ => offsAll d a b
theorem offsTo_len (d a b : Bool) (k : Nat) : (offsTo d a b k).length ≤ 3 := by
  match k with
  | 0 => simp [offsTo]
  | 1 => cases d <;> simp [offsTo]
  | 2 => cases d <;> cases a <;> simp [offsTo]
  | k + 3 => cases d <;> cases a <;> cases b <;> simp [offsTo, offsAll]
/-- A row that reads as pointers into block bm. -/
def PtrsA (w : World) (bm : Nat) (v : Value) (os : List Nat) : Prop := ∃ A c, v = .slice A os.length c ∧
  (0 < os.length → ∃ g, A = some ⟨g, 0, none⟩ ∧ g < w.heap.size ∧ ∀ (k : Nat) (o : Nat), os[k]? = some o → w.cell? ⟨g, k, none⟩ = some (.pointer (some ⟨bm, o, none⟩)))
theorem PtrsA.below {w w' : World} {bm : Nat} {v : Value} {os : List Nat} (h : PtrsA w bm v os) (hb : Below w.heap.size w w') : PtrsA w' bm v os := by
  obtain ⟨A, c, e, h2⟩ := h
  refine ⟨A, c, e, fun hl => ?_⟩
  obtain ⟨g, e1, e2, e3⟩ := h2 hl
  exact ⟨g, e1, Nat.lt_of_lt_of_le e2 hb.size, fun k o hk => (bcell hb e2).trans (e3 k o hk)⟩
theorem OwnPt.at_ {w : World} {base bm : Nat} {v : Value} {os : List Nat} (h : OwnPt w base bm v os) : PtrsA w bm v os := by
  rcases h.2 with ⟨rfl, h0⟩ | ⟨g, cap, cur, e1, hg, hh, _⟩
  · exact ⟨none, 0, by rw [h0], fun h => by omega⟩
  · have hc := World.ownsRow.cells h (g := g) (by rw [e1]; rfl)
    have hadd : ∀ j, (⟨g, 0, none⟩ : Addr).add j = ⟨g, j, none⟩ := fun j => by unfold Addr.add; split <;> simp_all
    refine ⟨_, cap, e1, fun _ => ⟨g, rfl, (Array.getElem?_eq_some_iff.1 hh).1, fun k o hk => ?_⟩⟩
    have := hc k (.pointer (some ⟨bm, o, none⟩)) (by unfold ptrsOf; rw [List.getElem?_map, hk]; rfl)
    rwa [hadd] at this
theorem reverse_two (bm : Nat) (v : Value) (w : World) (bf : Nat) (h : OwnPt w bf bm v [2, 3]) :
    Calls Tryz.prog 111 #[v] w fun e w' => e = .returned (.tuple #[]) ∧ PtrsA w' bm v [3, 2] ∧ Below bf w w' := by
  have hp := h.at_
  rcases h.2 with ⟨_, h0⟩ | ⟨g, cap, cur, rfl, hg, hh, _⟩
  · exact absurd h0 (by simp)
  · obtain ⟨A, c, e, hp2⟩ := hp
    obtain ⟨g', e1, hgl, hc⟩ := hp2 (by simp)
    cases e
    cases e1
    have hH : Go.Sort.Holds (fun o : Nat => Value.pointer (some ⟨bm, o, none⟩)) w g 0 [2, 3].toArray := by
      intro j hj
      have hfr : w.frozen? ⟨g, 0 + j, none⟩ = false := by simp [World.frozen?, hh]
      refine ⟨?_, hfr⟩
      have hj2 : j < 2 := hj
      rcases (by omega : j = 0 ∨ j = 1) with rfl | rfl
      · exact hc 0 2 rfl
      · exact hc 1 3 rfl
    refine (Tryz.slices_Reverse (fun o : Nat => Value.pointer (some ⟨bm, o, none⟩)) (fun _ => rfl) g 0 cap [2, 3] w hH (by simp)).mono ?_
    rintro e w' ⟨rfl, n, rfl⟩
    have hH2 := Go.Sort.holds_putRow _ _ _ _ _ ([2, 3] : List Nat).reverse.toArray (Go.Sort.holds_ahead _ w n g 0 _ hH) (by simp)
    refine ⟨rfl, ⟨_, cap, rfl, fun _ => ⟨g, rfl, ?_, fun k o hk => ?_⟩⟩, ?_⟩
    · show g < ((Go.Sort.ahead w n).heap.modify g _).size
      rw [Array.size_modify]
      exact hgl
    · rcases k with _ | _ | k
      · cases hk
        have := (hH2 0 (by simp)).1
        exact this
      · cases hk
        have := (hH2 1 (by simp)).1
        exact this
      · simp at hk
    · refine ⟨rfl, rfl, rfl, ?_, fun k hk => ?_⟩
      · show w.heap.size ≤ ((Go.Sort.ahead w n).heap.modify g _).size
        rw [Array.size_modify]
        exact Nat.le_refl _
      · show ((Go.Sort.ahead w n).heap.modify g _)[k]? = _
        rw [Array.getElem?_modify, if_neg (by omega)]
        rfl
section
variable {base bx lb : Nat} {nm : List UInt8} {ms : List Mac} {labs : List (Int × Nat)} {gs ks : List (Nat × List UInt8)} {cv gv kv : Value}
set_option maxRecDepth 100000 in
set_option maxHeartbeats 8000000 in
theorem take_any (nb : Bool) (op : Int) (hop : isOp op = true) (pv : Value) (pb : Nat) (p : List (List UInt8)) (hpl : p.length ≤ 1000000) (hps : ∀ x ∈ p, x.length ≤ 1000000) (w : World) (hS : Std w) (hp : OwnS w pb pv p) (hM : SecM w base bx nm ms labs gs ks cv lb gv kv) (hbase : base ≤ w.heap.size) (hl : ms.length ≤ 1000000 ∧ gs.length ≤ 1000000 ∧ ks.length ≤ 1000000) :
    Calls Tryz.prog 65 #[.pointer (some ⟨bx, 0, none⟩), .int .i64 op, pv, .bool nb] w (TakePost w base bx nm ms labs gs ks cv lb gv kv (takeP nb op p)) := by
  obtain ⟨pA, pc, hpv⟩ := hp.len
  subst hpv
  obtain ⟨pn, hpn⟩ : ∃ pn, p.length = pn := ⟨_, rfl⟩
  have Hpn := Lib.hid hpn
  rw [hpn] at hp hpl ⊢
  have HP := Lib.hid hp
  have HM := Lib.hid hM
  have HS := Lib.hid hS
  have HB := Lib.hid hbase
  have HL := Lib.hid hl
  have HPs := Lib.hid hps
  have HF := Lib.hid (ord_facts hop)
  have Hop := Lib.hid hop
  clear hp hM hS hbase hl hps hpn hop
  obtain ⟨d, hd⟩ : ∃ d, shD op = d := ⟨_, rfl⟩
  obtain ⟨a, ha⟩ : ∃ a, shA op = a := ⟨_, rfl⟩
  obtain ⟨b, hb⟩ : ∃ b, shB op = b := ⟨_, rfl⟩
  obtain ⟨K, hK⟩ : ∃ K, shK op = K := ⟨_, rfl⟩
  have Hd := Lib.hid hd
  have Ha := Lib.hid ha
  have Hb := Lib.hid hb
  have HK := Lib.hid hK
  have HB0 : Hid (Below w.heap.size w (w.alloc (.cells #[.int .i64 op, .int .i64 0, .int .i64 0, .int .i64 0, .int .i64 0] 39))) := Lib.hid ((Below.refl _ _).alloc (Nat.le_refl _) _)
  have HM0 : Hid (Blk (w.alloc (.cells #[.int .i64 op, .int .i64 0, .int .i64 0, .int .i64 0, .int .i64 0] 39)) w.heap.size 39 #[.int .i64 op, .int .i64 0, .int .i64 0, .int .i64 0, .int .i64 0]) := Lib.hid (Blk.new _ _ _)
  have HOf := Lib.hid (Of_any op (w.alloc (.cells #[.int .i64 op, .int .i64 0, .int .i64 0, .int .i64 0, .int .i64 0] 39)) (HS.out.own HB0.out).tab)
  rw [hd, ha, hb, hK] at HOf
  clear hd ha hb hK
  go_enter Tryz.func65, Tryz.ntmps65
  go_upto_region 2 with fail
  generalize w.alloc (.cells #[.int .i64 op, .int .i64 0, .int .i64 0, .int .i64 0, .int .i64 0] 39) = W0 at *
  obtain ⟨bm, hbm⟩ : ∃ bm, w.heap.size = bm := ⟨_, rfl⟩
  have Hbm := Lib.hid hbm
  rw [hbm]
  rw [hbm] at HM0
  clear hbm
  go_wp2_with fail
  refine HOf.out.mono ?_
  rintro e W1 ⟨rfl, hb1⟩
  have HB1 := Lib.hid (HB0.out.trans (hb1.mono HB0.out.size))
  have HM1 := Lib.hid (HM0.out.below hb1 HM0.out.lt)
  clear hb1 HB0 HM0 HOf
  go_upto_region 3 with fail
  have HB2 : Hid (Below w.heap.size w (W1.alloc (.cells #[.bool d, .bool a, .bool b, .int .i64 K] 129))) := Lib.hid (HB1.out.alloc HB1.out.size _)
  have HM2 := Lib.hid (HM1.out.alloc (.cells #[.bool d, .bool a, .bool b, .int .i64 K] 129))
  have HSh2 : Hid (Blk (W1.alloc (.cells #[.bool d, .bool a, .bool b, .int .i64 K] 129)) W1.heap.size 129 #[.bool d, .bool a, .bool b, .int .i64 K]) := Lib.hid (Blk.new _ _ _)
  generalize W1.alloc (.cells #[.bool d, .bool a, .bool b, .int .i64 K] 129) = W2 at *
  generalize W1.heap.size = bs at *
  clear HB1 HM1
  have HB3 : Hid (Below w.heap.size w (W2.alloc (.cells #[] 160))) := Lib.hid (HB2.out.alloc HB2.out.size _)
  have HM3 := Lib.hid (HM2.out.alloc (.cells #[] 160))
  have HSh3 := Lib.hid (HSh2.out.alloc (.cells #[] 160))
  have HO3 := Lib.hid (own_builtP W2 bm)
  have Hz3 : Hid (W2.heap.size < (W2.alloc (.cells #[] 160)).heap.size) := Lib.hid (by simp)
  have Hw2 : Hid (w.heap.size ≤ W2.heap.size ∧ bm < W2.heap.size ∧ bs < W2.heap.size) := Lib.hid ⟨HB2.out.size, HM2.out.lt, HSh2.out.lt⟩
  have s0 := HSh3.out.cell 0
  have s1 := HSh3.out.cell 1
  have s2 := HSh3.out.cell 2
  clear HB2 HM2 HSh2
  go_upto_region 4 with fail
  generalize W2.alloc (.cells #[] 160) = W3 at *
  generalize W2.heap.size = bf at *
  go_wp2_with fail
  have x0 : ∀ w, (Instr.index 162 (.agg #[.bool d, .pointer (some ⟨bm, 1, none⟩), .bool a, .pointer (some ⟨bm, 2, none⟩), .bool b, .pointer (some ⟨bm, 3, none⟩)]) (.int .i64 0)).run Tryz.prog w = .ok (.agg #[.bool d, .pointer (some ⟨bm, 1, none⟩)]) w := fun _ => by kernel_rfl
  have x1 : ∀ w, (Instr.index 162 (.agg #[.bool d, .pointer (some ⟨bm, 1, none⟩), .bool a, .pointer (some ⟨bm, 2, none⟩), .bool b, .pointer (some ⟨bm, 3, none⟩)]) (.int .i64 1)).run Tryz.prog w = .ok (.agg #[.bool a, .pointer (some ⟨bm, 2, none⟩)]) w := fun _ => by kernel_rfl
  have x2 : ∀ w, (Instr.index 162 (.agg #[.bool d, .pointer (some ⟨bm, 1, none⟩), .bool a, .pointer (some ⟨bm, 2, none⟩), .bool b, .pointer (some ⟨bm, 3, none⟩)]) (.int .i64 2)).run Tryz.prog w = .ok (.agg #[.bool b, .pointer (some ⟨bm, 3, none⟩)]) w := fun _ => by kernel_rfl
  have X := Lib.hid (And.intro x0 (And.intro x1 x2))
  clear x0 x1 x2
  have HZf : Hid (bf ≤ W3.heap.size) := Lib.hid (Nat.le_of_lt Hz3.out)
  clear s0 s1 s2
  go_loopg [12, 41] 3 (fun gk v12 v41 wx => ∃ k : Nat, v41 = .int .i64 (k : Int) ∧ k + gk = 3 ∧ Hid (OwnPt wx bf bm v12 (offsTo d a b k)) ∧ Hid (Below bf W3 wx))
  case atStart => exact ⟨0, rfl, by omega, HO3, Lib.hid (Below.refl _ _)⟩
  case round =>
    obtain ⟨k, rfl, hk, HOr, HBr⟩ := hrel
    clear HO3
    rcases (by omega : k = 0 ∨ k = 1 ∨ k = 2 ∨ k = 3) with rfl | rfl | rfl | rfl
    · have HBx : Hid (Below bf W3 (wr.alloc (.cells #[.bool d, .pointer (some ⟨bm, 1, none⟩)] 161))) := Lib.hid (HBr.out.alloc (Nat.le_trans HZf.out HBr.out.size) _)
      have HOx := Lib.hid (World.ownsRow.alloc HOr.out (.cells #[.bool d, .pointer (some ⟨bm, 1, none⟩)] 161))
      have HBk : Hid (Blk (wr.alloc (.cells #[.bool d, .pointer (some ⟨bm, 1, none⟩)] 161)) wr.heap.size 161 #[.bool d, .pointer (some ⟨bm, 1, none⟩)]) := Lib.hid (Blk.new _ _ _)
      have hzx : bf ≤ (wr.alloc (.cells #[.bool d, .pointer (some ⟨bm, 1, none⟩)] 161)).heap.size := Nat.le_trans HZf.out (Nat.le_trans HBr.out.size (by simp))
      have xk := X.out.1
      cases d with
      | false =>
        clear hzx
        go_wp2_with fail
        go_roundg 2
        case measure => omega
        case rel => exact ⟨1, rfl, by omega, Lib.hid (by have h := HOx.out; exact h), HBx⟩
      | true =>
        go_upto_region 8 with fail
        clear xk
        generalize wr.alloc (.cells #[.bool true, .pointer (some ⟨bm, 1, none⟩)] 161) = Wb at *
        generalize wr.heap.size = gb at *
        have k1 := HBk.out.cell 1
        go_wp2_with (at_builtin; refine app_one rfl _ _ 159 160 rfl (.pointer none) 1 8 Tryz.underlying159 infoPt rfl (by decide) (by decide) bf _ _ _ (by rfl) HOx.out _ [.pointer (some ⟨bm, 1, none⟩)] (by rfl) rfl (fun x hx => by simp at hx; subst hx; rfl) rfl (Nat.le_trans (offsTo_len _ _ _ _) (by omega)) hzx ?_; intro p1 Wc HA)
        have HO1 := Lib.hid (OwnPt.snoc HA.out.own)
        have HB1 := Lib.hid (HBx.out.trans HA.out.below)
        clear HA hzx k1
        go_roundg 2
        case measure => omega
        case rel => exact ⟨1, rfl, by omega, Lib.hid (by have h := HO1.out; exact h), HB1⟩
    · have HBx : Hid (Below bf W3 (wr.alloc (.cells #[.bool a, .pointer (some ⟨bm, 2, none⟩)] 161))) := Lib.hid (HBr.out.alloc (Nat.le_trans HZf.out HBr.out.size) _)
      have HOx := Lib.hid (World.ownsRow.alloc HOr.out (.cells #[.bool a, .pointer (some ⟨bm, 2, none⟩)] 161))
      have HBk : Hid (Blk (wr.alloc (.cells #[.bool a, .pointer (some ⟨bm, 2, none⟩)] 161)) wr.heap.size 161 #[.bool a, .pointer (some ⟨bm, 2, none⟩)]) := Lib.hid (Blk.new _ _ _)
      have hzx : bf ≤ (wr.alloc (.cells #[.bool a, .pointer (some ⟨bm, 2, none⟩)] 161)).heap.size := Nat.le_trans HZf.out (Nat.le_trans HBr.out.size (by simp))
      have xk := X.out.2.1
      cases a with
      | false =>
        clear hzx
        go_wp2_with fail
        go_roundg 1
        case measure => omega
        case rel => exact ⟨2, rfl, by omega, Lib.hid (by have h := HOx.out; cases d <;> exact h), HBx⟩
      | true =>
        go_upto_region 8 with fail
        clear xk
        generalize wr.alloc (.cells #[.bool true, .pointer (some ⟨bm, 2, none⟩)] 161) = Wb at *
        generalize wr.heap.size = gb at *
        have k1 := HBk.out.cell 1
        go_wp2_with (at_builtin; refine app_one rfl _ _ 159 160 rfl (.pointer none) 1 8 Tryz.underlying159 infoPt rfl (by decide) (by decide) bf _ _ _ (by rfl) HOx.out _ [.pointer (some ⟨bm, 2, none⟩)] (by rfl) rfl (fun x hx => by simp at hx; subst hx; rfl) rfl (Nat.le_trans (offsTo_len _ _ _ _) (by omega)) hzx ?_; intro p1 Wc HA)
        have HO1 := Lib.hid (OwnPt.snoc HA.out.own)
        have HB1 := Lib.hid (HBx.out.trans HA.out.below)
        clear HA hzx k1
        go_roundg 1
        case measure => omega
        case rel => exact ⟨2, rfl, by omega, Lib.hid (by have h := HO1.out; cases d <;> exact h), HB1⟩
    · have HBx : Hid (Below bf W3 (wr.alloc (.cells #[.bool b, .pointer (some ⟨bm, 3, none⟩)] 161))) := Lib.hid (HBr.out.alloc (Nat.le_trans HZf.out HBr.out.size) _)
      have HOx := Lib.hid (World.ownsRow.alloc HOr.out (.cells #[.bool b, .pointer (some ⟨bm, 3, none⟩)] 161))
      have HBk : Hid (Blk (wr.alloc (.cells #[.bool b, .pointer (some ⟨bm, 3, none⟩)] 161)) wr.heap.size 161 #[.bool b, .pointer (some ⟨bm, 3, none⟩)]) := Lib.hid (Blk.new _ _ _)
      have hzx : bf ≤ (wr.alloc (.cells #[.bool b, .pointer (some ⟨bm, 3, none⟩)] 161)).heap.size := Nat.le_trans HZf.out (Nat.le_trans HBr.out.size (by simp))
      have xk := X.out.2.2
      cases b with
      | false =>
        clear hzx
        go_wp2_with fail
        go_roundg 0
        case measure => omega
        case rel => exact ⟨3, rfl, by omega, Lib.hid (by have h := HOx.out; cases d <;> cases a <;> exact h), HBx⟩
      | true =>
        go_upto_region 8 with fail
        clear xk
        generalize wr.alloc (.cells #[.bool true, .pointer (some ⟨bm, 3, none⟩)] 161) = Wb at *
        generalize wr.heap.size = gb at *
        have k1 := HBk.out.cell 1
        go_wp2_with (at_builtin; refine app_one rfl _ _ 159 160 rfl (.pointer none) 1 8 Tryz.underlying159 infoPt rfl (by decide) (by decide) bf _ _ _ (by rfl) HOx.out _ [.pointer (some ⟨bm, 3, none⟩)] (by rfl) rfl (fun x hx => by simp at hx; subst hx; rfl) rfl (Nat.le_trans (offsTo_len _ _ _ _) (by omega)) hzx ?_; intro p1 Wc HA)
        have HO1 := Lib.hid (OwnPt.snoc HA.out.own)
        have HB1 := Lib.hid (HBx.out.trans HA.out.below)
        clear HA hzx k1
        go_roundg 0
        case measure => omega
        case rel => exact ⟨3, rfl, by omega, Lib.hid (by have h := HO1.out; cases d <;> cases a <;> exact h), HB1⟩
    · have HO4 : Hid (OwnPt wr bf bm u12 (offsAll d a b)) := HOr
      have HM4 := Lib.hid (HM3.out.below HBr.out Hw2.out.2.1)
      have HB4 := Lib.hid (HB3.out.trans (HBr.out.mono Hw2.out.1))
      have HSh4 := Lib.hid (HSh3.out.below HBr.out Hw2.out.2.2)
      have HFo : Hid (op = 34 ∧ offsAll d a b = [2, 3] ∧ offsOf op = [3, 2] ∨ op ≠ 34 ∧ offsOf op = offsAll d a b) := Lib.hid (by
        have h := HF.out.2
        rw [Hd.out, Ha.out, Hb.out] at h
        by_cases h34 : op = 34
        · have h2 := h.2.1 h34
          refine .inl ⟨h34, h2, ?_⟩
          have h1 := h.1
          rw [if_pos h34, h2] at h1
          exact h1.symm
        · refine .inr ⟨h34, ?_⟩
          have h1 := h.1
          rw [if_neg h34] at h1
          exact h1.symm)
      clear HM3 HSh3 HOr X
      go_upto_if 53 with fail
      go_cut [] (fun wx => Hid (PtrsA wx bm u12 (offsOf op)) ∧ Hid (Below bf wr wx))
      case first =>
        rcases HFo.out with ⟨h34, h2, h3⟩ | ⟨h34, h2⟩
        · have hb34 : (op == 34) = true := by rw [h34]; rfl
          have HRv := Lib.hid (reverse_two bm u12 wr bf (by rw [← h2]; exact HO4.out))
          have H3 := Lib.hid h3
          clear h34 h2 h3
          go_wp2_with fail
          refine HRv.out.mono ?_
          rintro e w2 ⟨rfl, hp2, hb2⟩
          have HP2 : Hid (PtrsA w2 bm u12 (offsOf op)) := Lib.hid (by rw [H3.out]; exact hp2)
          have HB2 := Lib.hid hb2
          clear hp2 hb2
          go_wp2_with fail
          go_meet
          exact ⟨HP2, HB2⟩
        · have hb34 : (op == 34) = false := beq_false_of_ne h34
          have HP2 : Hid (PtrsA wr bm u12 (offsOf op)) := Lib.hid (by rw [h2]; exact HO4.out.at_)
          clear h34 h2
          go_wp2_with fail
          go_meet
          exact ⟨HP2, Lib.hid (Below.refl _ _)⟩
      case rest =>
        obtain ⟨HPt, HBc⟩ := hcut
        have HM5 := Lib.hid (HM4.out.below HBc.out Hw2.out.2.1)
        have HSh5 := Lib.hid (HSh4.out.below HBc.out Hw2.out.2.2)
        have HB5 := Lib.hid (HB4.out.trans (HBc.out.mono Hw2.out.1))
        have HPt5 := Lib.hid HPt.out
        obtain ⟨fA, fc, hu, hptr⟩ := HPt.out
        subst hu
        obtain ⟨ol, hol⟩ : ∃ ol, (offsOf op).length = ol := ⟨_, rfl⟩
        have hor : (regL op).length = ol := by rw [← hol]; exact (List.length_map _).symm
        obtain ⟨mn, hmn⟩ : ∃ mn, (ordL op).length = mn := ⟨_, rfl⟩
        have hsum : mn = ol + (numL op).length := by rw [← hmn, HF.out.1, List.length_append, hor]
        have hol3 : mn ≤ 3 := by rw [← hmn]; exact ord_len op
        have HK0 : Hid ((K = 0 ∧ mn = ol) ∨ (K ≠ 0 ∧ mn = ol + 1)) := Lib.hid (by
          have h := HF.out.2.2.2
          rw [HK.out] at h
          rcases h with ⟨h, e⟩ | ⟨h, e⟩ | ⟨h, e⟩ | ⟨h, e⟩ | ⟨h, e⟩ <;> rw [e] at hsum <;> simp at hsum
          · exact .inl ⟨h, hsum⟩
          all_goals exact .inr ⟨by omega, hsum⟩)
        rw [hol] at hptr
        have HPtr := Lib.hid hptr
        have Hol := Lib.hid hol
        have Hor := Lib.hid hor
        have Hmn := Lib.hid hmn
        have holm : ol ≤ mn := by omega
        rw [hol] at HPt5 HPt ⊢
        have s3 := HSh5.out.cell 3
        clear HPt HM4 HSh4 HB4 HO4 HFo hptr hol hor hmn hsum
        go_upto_if 60 with fail
        go_cut [15] (fun s15 wx => s15 = .int .i64 (mn : Int) ∧ wx = wc)
        case first =>
          rcases HK0.out with ⟨h0, h1⟩ | ⟨h0, h1⟩
          · subst h1
            have hk0 : (K != 0) = false := by rw [h0]; rfl
            clear h0
            go_wp2_with fail
            go_meet
            exact ⟨rfl, rfl⟩
          · subst h1
            have hk0 : (K != 0) = true := by simp [h0]
            clear h0
            go_wp2_with fail
            go_meet
            exact ⟨by go_num, rfl⟩
        case rest =>
          obtain ⟨rfl, rfl⟩ := hcut
          by_cases hne : pn = mn
          · have HT0 : Hid (TakeTo nb op p 0 ⟨op, 0, 0, 0, 0⟩) := Lib.hid (TakeTo.zero (by rw [Hpn.out, Hmn.out]; exact hne))
            have hq : ((pn : Int) != (mn : Int)) = false := by rw [hne]; simp
            have hq2 : (pn != mn) = false := by rw [hne]; simp
            obtain rfl : pn = mn := hne
            clear s3
            go_wp2_with fail
            clear hq hq2
            go_loopg [69] ol (fun gk v wx => ∃ (i : Nat) (m : Mac), v = .int .i64 (i : Int) ∧ i + gk = ol ∧ Hid (TakeTo nb op p i m) ∧ Hid (Blk wx bm 39 m.cells.toArray) ∧ Hid (OutS (fun k => k = bm) wc wx))
            case atStart => exact ⟨0, _, rfl, by omega, HT0, HM5, Lib.hid (OutS.refl _ _)⟩
            case round =>
              obtain ⟨i, m, rfl, hi, HTi, HMi, HOi⟩ := hrel
              clear HT0
              have HBi : Hid (Below w.heap.size w wr) := Lib.hid (HB5.out.trans (HOi.out.below HB5.out.size (fun k e => by rw [e, Hbm.out]; exact Nat.le_refl _)))
              have HSi := Lib.hid (HS.out.own HBi.out)
              rcases gk with _ | gk
              · obtain rfl : i = ol := by omega
                have HEnd : Hid (takeP nb op p = fieldsP nb ⟨m, none, none⟩ (numL op) (p.drop i)) := Lib.hid (by
                  have h := HTi.out
                  rw [← Hor.out] at h ⊢
                  exact h.end_ Hop.out)
                have HShi : Hid (Blk wr bs 129 #[.bool d, .bool a, .bool b, .int .i64 K]) := Lib.hid ((HOi.out.block bs HSh5.out.lt (fun e => by
                  have h1 := HSh5.out
                  have h2 := HM5.out
                  unfold Blk at h1 h2
                  rw [e, h2] at h1
                  cases h1)).trans HSh5.out)
                have HMw := Lib.hid (HM.out.below HBi.out)
                have HPw := Lib.hid (HP.out.below HBi.out)
                have Hbmw : Hid (w.heap.size ≤ bm) := Lib.hid (by rw [Hbm.out]; exact Nat.le_refl _)
                have s3 := HShi.out.cell 3
                go_upto_region 25 with fail
                go_cut [104] from 88 to 104 (fun s104 wx => ∃ bb : Bool, s104 = .bool bb ∧ Hid (PartCut w base bx nm ms labs gs ks cv lb gv kv bm (takeP nb op p) bb wx))
                case first =>
                  have hfk := HF.out.2.2.2
                  rw [HK.out] at hfk
                  rcases HK0.out with ⟨h0, h1⟩ | ⟨h0, h1⟩
                  · have hk0 : (K != 0) = false := by rw [h0]; rfl
                    have HT : Hid (takeP nb op p = some ⟨m, none, none⟩) := Lib.hid (by
                      rw [h0] at hfk
                      rcases hfk with ⟨_, e⟩ | ⟨h, _⟩ | ⟨h, _⟩ | ⟨h, _⟩ | ⟨h, _⟩
                      · rw [HEnd.out, e]; rfl
                      all_goals exact absurd h (by decide))
                    have HPC : Hid (∀ n, PartCut w base bx nm ms labs gs ks cv lb gv kv bm (takeP nb op p) false (wr.drewN n)) := Lib.hid fun n => ⟨fun h => (by cases h), fun _ => ⟨_, gv, kv, HT.out, by simpa [goalOf, callOf] using HMw.out.stay (w' := wr.drewN n) fun _ _ => rfl, HMi.out, outS_of (HBi.out.trans (below_drewn _ _ _)), fun k hk => .inl hk⟩⟩
                    clear h0 h1 hfk
                    go_wp2_with fail
                    go_quiet (fail)
                    go_wp2_with fail
                    go_meet
                    exact ⟨false, rfl, Lib.hid (HPC.out _)⟩
                  · have hk0 : (K != 0) = true := by simp [h0]
                    obtain ⟨s, hs⟩ : ∃ s, p[i]? = some s := ⟨p[i]'(by rw [Hpn.out]; omega), List.getElem?_eq_getElem _⟩
                    have hsl := HPs.out s (List.mem_of_getElem? hs)
                    obtain ⟨b0, c0, e0, _, hb0, hcell⟩ := HPw.out.at_ hs
                    have e1 : pA = some ⟨b0, 0, none⟩ := (Value.slice.inj e0).1
                    subst e1
                    have p0 := hcell
                    have i0 : (0 : Int) ≤ (i : Int) := Int.natCast_nonneg i
                    have i2 : (i : Int) < (pn : Int) := by omega
                    have Hs := Lib.hid hs
                    have H1 := Lib.hid h1
                    have HD : Hid (p.drop i = [s]) := Lib.hid (by
                      rw [drop_at hs, List.drop_eq_nil_of_le (by rw [Hpn.out]; omega)])
                    have i3 : IntKind.i64.wrap ((pn : Int) - 1) = (i : Int) := by rw [IntKind.wrap_i64]; omega
                    clear e0 hb0 hcell hs h1
                    clear h0
                    rcases hfk with ⟨h, e⟩ | ⟨hKv, e⟩ | ⟨hKv, e⟩ | ⟨hKv, e⟩ | ⟨hKv, e⟩
                    · rw [h] at hk0; cases hk0
                    · have HT : Hid (takeP nb op p = (numI s).map fun n => ⟨{ m with n := n }, none, none⟩) := Lib.hid (by rw [HEnd.out, e, HD.out]; show (fieldP nb ⟨m, none, none⟩ 110 s).bind _ = _; unfold fieldP; cases numI s <;> rfl)
                      have HG := Lib.hid (part_num bx s (by omega) 1 nb (.inl rfl) bm _ _ _ _ _ wr.drew (HSi.out.own (below_dr wr)) (show Blk wr.drew bm 39 #[_, _, _, _, _] from HMi.out))
                      subst hKv
                      clear e
                      go_wp2_with fail
                      go_still_tail 14, (by kernel_rfl)
                      clear i3
                      go_wp2_with fail
                      refine HG.out.mono ?_
                      rintro e W6 ⟨he, hO, hN⟩
                      have hOw : OutS (InSec bx lb cv gv kv) w W6 := (outS_of HBi.out).trans hO.drewn fun k hk h => by have := Hbmw.out; omega
                      have HOw := Lib.hid hOw
                      have HS6 : Hid (SecM W6 base bx nm ms labs gs ks cv lb gv kv) := Lib.hid (HMw.out.stay fun k hk => hO.block k (HMw.out.lt hk) (fun h => by have := HM.out.lt hk; have := Hbmw.out; omega))
                      cases hl : numI s with
                      | none =>
                        have HPC : Hid (PartCut w base bx nm ms labs gs ks cv lb gv kv bm (takeP nb op p) true W6) := Lib.hid ⟨fun _ => ⟨by rw [HT.out, hl]; rfl, HOw.out⟩, fun h => (by cases h)⟩
                        rw [hl] at he
                        subst he
                        clear hO hN hOw hl
                        go_wp2_with fail
                        go_meet
                        exact ⟨true, rfl, HPC⟩
                      | some n =>
                        have HPC : Hid (PartCut w base bx nm ms labs gs ks cv lb gv kv bm (takeP nb op p) false W6) := Lib.hid ⟨fun h => (by cases h), fun _ =>
                          ⟨⟨{ m with n := n }, none, none⟩, gv, kv, by rw [HT.out, hl]; rfl, by simpa [goalOf, callOf] using HS6.out, hN n hl, HOw.out, fun k hk => .inl hk⟩⟩
                        rw [hl] at he
                        subst he
                        clear hO hN hOw hl
                        go_wp2_with fail
                        go_meet
                        exact ⟨false, rfl, HPC⟩
                    · have HT : Hid (takeP nb op p = (labI s).map fun n => ⟨m, some n, none⟩) := Lib.hid (by rw [HEnd.out, e, HD.out]; show (fieldP nb ⟨m, none, none⟩ 116 s).bind _ = _; unfold fieldP; cases labI s <;> rfl)
                      have HG := Lib.hid (part_goal s (by omega) (.pointer (some ⟨bm, 4, none⟩)) nb wr.drew (HSi.out.own (below_dr wr)) (HMw.out.stay fun _ _ => rfl) (Nat.le_trans HB.out HBi.out.size) HL.out.2.1)
                      subst hKv
                      clear e
                      go_wp2_with fail
                      go_still_tail 14, (by kernel_rfl)
                      clear i3
                      go_wp2_with fail
                      refine HG.out.mono ?_
                      rintro e W6 ⟨he, hO, hN⟩
                      have hOw : OutS (InSec bx lb cv gv kv) w W6 := (outS_of HBi.out).trans hO.drewn fun _ _ h => h
                      have HOw := Lib.hid hOw
                      cases hl : labI s with
                      | none =>
                        have HPC : Hid (PartCut w base bx nm ms labs gs ks cv lb gv kv bm (takeP nb op p) true W6) := Lib.hid ⟨fun _ => ⟨by rw [HT.out, hl]; rfl, HOw.out⟩, fun h => (by cases h)⟩
                        rw [hl] at he
                        subst he
                        clear hO hN hOw hl
                        go_wp2_with fail
                        go_meet
                        exact ⟨true, rfl, HPC⟩
                      | some n =>
                        have HPC : Hid (PartCut w base bx nm ms labs gs ks cv lb gv kv bm (takeP nb op p) false W6) := Lib.hid ⟨fun h => (by cases h), fun _ => by
                          obtain ⟨gv', h1, h2⟩ := hN n hl
                          refine ⟨⟨m, some n, none⟩, gv', kv, by rw [HT.out, hl]; rfl, by simpa [goalOf, callOf] using h1, ?_, HOw.out, fun k hk => ?_⟩
                          · refine (hO.block bm HMi.out.lt (fun e => ?_)).trans HMi.out
                            have h3 := HM.out.lt e
                            have := Hbmw.out
                            omega
                          · rcases h2 k hk with h3 | h3
                            · exact .inl h3
                            · exact .inr (Nat.le_trans HBi.out.size h3)⟩
                        rw [hl] at he
                        subst he
                        clear hO hN hOw hl
                        go_wp2_with fail
                        go_meet
                        exact ⟨false, rfl, HPC⟩
                    · have HT : Hid (takeP nb op p = (numI s).map fun n => ⟨{ m with n := n }, none, none⟩) := Lib.hid (by rw [HEnd.out, e, HD.out]; show (fieldP nb ⟨m, none, none⟩ 119 s).bind _ = _; unfold fieldP; cases numI s <;> rfl)
                      have HG := Lib.hid (part_num bx s (by omega) 3 nb (.inr (.inl rfl)) bm _ _ _ _ _ wr.drew (HSi.out.own (below_dr wr)) (show Blk wr.drew bm 39 #[_, _, _, _, _] from HMi.out))
                      subst hKv
                      clear e
                      go_wp2_with fail
                      go_still_tail 14, (by kernel_rfl)
                      clear i3
                      go_wp2_with fail
                      refine HG.out.mono ?_
                      rintro e W6 ⟨he, hO, hN⟩
                      have hOw : OutS (InSec bx lb cv gv kv) w W6 := (outS_of HBi.out).trans hO.drewn fun k hk h => by have := Hbmw.out; omega
                      have HOw := Lib.hid hOw
                      have HS6 : Hid (SecM W6 base bx nm ms labs gs ks cv lb gv kv) := Lib.hid (HMw.out.stay fun k hk => hO.block k (HMw.out.lt hk) (fun h => by have := HM.out.lt hk; have := Hbmw.out; omega))
                      cases hl : numI s with
                      | none =>
                        have HPC : Hid (PartCut w base bx nm ms labs gs ks cv lb gv kv bm (takeP nb op p) true W6) := Lib.hid ⟨fun _ => ⟨by rw [HT.out, hl]; rfl, HOw.out⟩, fun h => (by cases h)⟩
                        rw [hl] at he
                        subst he
                        clear hO hN hOw hl
                        go_wp2_with fail
                        go_meet
                        exact ⟨true, rfl, HPC⟩
                      | some n =>
                        have HPC : Hid (PartCut w base bx nm ms labs gs ks cv lb gv kv bm (takeP nb op p) false W6) := Lib.hid ⟨fun h => (by cases h), fun _ =>
                          ⟨⟨{ m with n := n }, none, none⟩, gv, kv, by rw [HT.out, hl]; rfl, by simpa [goalOf, callOf] using HS6.out, hN n hl, HOw.out, fun k hk => .inl hk⟩⟩
                        rw [hl] at he
                        subst he
                        clear hO hN hOw hl
                        go_wp2_with fail
                        go_meet
                        exact ⟨false, rfl, HPC⟩
                    · cases nb with
                      | false =>
                        have HT : Hid (takeP false op p = (numI s).map fun n => ⟨{ m with n := n }, none, none⟩) := Lib.hid (by rw [HEnd.out, e, HD.out]; show (fieldP false ⟨m, none, none⟩ 114 s).bind _ = _; unfold fieldP; cases numI s <;> rfl)
                        have HG := Lib.hid (part_num bx s (by omega) 4 false (.inr (.inr ⟨rfl, rfl⟩)) bm _ _ _ _ _ wr.drew (HSi.out.own (below_dr wr)) (show Blk wr.drew bm 39 #[_, _, _, _, _] from HMi.out))
                        subst hKv
                        clear e
                        go_wp2_with fail
                        go_still_tail 14, (by kernel_rfl)
                        clear i3
                        go_wp2_with fail
                        refine HG.out.mono ?_
                        rintro e W6 ⟨he, hO, hN⟩
                        have hOw : OutS (InSec bx lb cv gv kv) w W6 := (outS_of HBi.out).trans hO.drewn fun k hk h => by have := Hbmw.out; omega
                        have HOw := Lib.hid hOw
                        have HS6 : Hid (SecM W6 base bx nm ms labs gs ks cv lb gv kv) := Lib.hid (HMw.out.stay fun k hk => hO.block k (HMw.out.lt hk) (fun h => by have := HM.out.lt hk; have := Hbmw.out; omega))
                        cases hl : numI s with
                        | none =>
                          have HPC : Hid (PartCut w base bx nm ms labs gs ks cv lb gv kv bm (takeP false op p) true W6) := Lib.hid ⟨fun _ => ⟨by rw [HT.out, hl]; rfl, HOw.out⟩, fun h => (by cases h)⟩
                          rw [hl] at he
                          subst he
                          clear hO hN hOw hl
                          go_wp2_with fail
                          go_meet
                          exact ⟨true, rfl, HPC⟩
                        | some n =>
                          have HPC : Hid (PartCut w base bx nm ms labs gs ks cv lb gv kv bm (takeP false op p) false W6) := Lib.hid ⟨fun h => (by cases h), fun _ =>
                            ⟨⟨{ m with n := n }, none, none⟩, gv, kv, by rw [HT.out, hl]; rfl, by simpa [goalOf, callOf] using HS6.out, hN n hl, HOw.out, fun k hk => .inl hk⟩⟩
                          rw [hl] at he
                          subst he
                          clear hO hN hOw hl
                          go_wp2_with fail
                          go_meet
                          exact ⟨false, rfl, HPC⟩
                      | true =>
                        have HT : Hid (takeP true op p = if nameS (mkS s) = true then some ⟨m, none, some s⟩ else none) := Lib.hid (by rw [HEnd.out, e, HD.out]; show (fieldP true ⟨m, none, none⟩ 114 s).bind _ = _; unfold fieldP; cases hn : nameS (mkS s) <;> simp [fieldsP])
                        have HG := Lib.hid (part_call s (by omega) (.pointer (some ⟨bm, 4, none⟩)) wr.drew (HMw.out.stay fun _ _ => rfl) (Nat.le_trans HB.out HBi.out.size) HL.out.2.2)
                        subst hKv
                        clear e
                        go_wp2_with fail
                        go_still_tail 14, (by kernel_rfl)
                        clear i3
                        go_wp2_with fail
                        refine HG.out.mono ?_
                        rintro e W6 ⟨he, hO, hN⟩
                        have hOw : OutS (InSec bx lb cv gv kv) w W6 := (outS_of HBi.out).trans hO.drewn fun _ _ h => h
                        have HOw := Lib.hid hOw
                        cases hl : nameS (mkS s) with
                        | false =>
                          have HPC : Hid (PartCut w base bx nm ms labs gs ks cv lb gv kv bm (takeP true op p) true W6) := Lib.hid ⟨fun _ => ⟨by rw [HT.out, hl]; rfl, HOw.out⟩, fun h => (by cases h)⟩
                          rw [hl] at he
                          subst he
                          clear hO hN hOw hl
                          go_wp2_with fail
                          go_meet
                          exact ⟨true, rfl, HPC⟩
                        | true =>
                          have HPC : Hid (PartCut w base bx nm ms labs gs ks cv lb gv kv bm (takeP true op p) false W6) := Lib.hid ⟨fun h => (by cases h), fun _ => by
                            obtain ⟨kv', h1, h2⟩ := hN
                            refine ⟨⟨m, none, some s⟩, gv, kv', by rw [HT.out, hl]; rfl, by simpa [goalOf, callOf] using h1, ?_, HOw.out, fun k hk => ?_⟩
                            · refine (hO.block bm HMi.out.lt (fun e => ?_)).trans HMi.out
                              have h3 := HM.out.lt e
                              have := Hbmw.out
                              omega
                            · rcases h2 k hk with h3 | h3
                              · exact .inl h3
                              · exact .inr (Nat.le_trans HBi.out.size h3)⟩
                          rw [hl] at he
                          subst he
                          clear hO hN hOw hl
                          go_wp2_with fail
                          go_meet
                          exact ⟨false, rfl, HPC⟩
                case rest =>
                  obtain ⟨bb, rfl, HPC⟩ := hcut
                  cases bb with
                  | true =>
                    obtain ⟨hr, ho⟩ := HPC.out.1 rfl
                    have HR := Lib.hid hr
                    have HO := Lib.hid ho
                    clear hr ho
                    go_wp2_with fail
                    go_ret
                    exact ⟨by rw [HR.out]; rfl, HO.out, fun x h => by rw [HR.out] at h; cases h⟩
                  | false =>
                    obtain ⟨x, gv', kv', hr, hm, hb, ho, hn⟩ := HPC.out.2 rfl
                    have HR := Lib.hid hr
                    have HO := Lib.hid ho
                    have HMx := Lib.hid hm
                    have HMb := Lib.hid hb
                    have HNx := Lib.hid hn
                    clear hr ho hm hb hn HPC
                    go_wp2_with fail
                    obtain ⟨⟨x0, x1, x2, x3, x4⟩, xg, xc⟩ := x
                    obtain ⟨cA, cc, hcv⟩ := row_form HMx.out.code
                    subst hcv
                    obtain ⟨cn, hcn⟩ : ∃ cn, ms.length = cn := ⟨_, rfl⟩
                    have hcl : cn ≤ 1000000 := by rw [← hcn]; exact HL.out.1
                    have Hcn := Lib.hid hcn
                    rw [hcn] at HMx HM HO HNx ⊢
                    obtain ⟨W2, hW2⟩ : ∃ W2, wc.drew = W2 := ⟨_, rfl⟩
                    have HM2 : Hid (SecM W2 base bx nm ms labs (gs ++ goalOf cn ⟨⟨x0, x1, x2, x3, x4⟩, xg, xc⟩) (ks ++ callOf cn ⟨⟨x0, x1, x2, x3, x4⟩, xg, xc⟩) (.slice cA cn cc) lb gv' kv') := Lib.hid (by rw [← hW2]; exact HMx.out.stay fun _ _ => rfl)
                    have HMb2 : Hid (Blk W2 bm 39 #[.int .i64 x0, .int .i64 x1, .int .i64 x2, .int .i64 x3, .int .i64 x4]) := Lib.hid (by rw [← hW2]; exact HMb.out)
                    have hz2 : base ≤ W2.heap.size := by rw [← hW2]; exact Nat.le_trans HB.out HO.out.size
                    have Hz2 : Hid (w.heap.size ≤ W2.heap.size) := Lib.hid (by rw [← hW2]; exact HO.out.size)
                    obtain ⟨B5, c5, W3, hr, hap⟩ := run_app_one (P := Tryz.prog) (w := W2) 22 22 39 _ 5 40 Tryz.underlying22 infoMac rfl (by decide) (by decide) base _ _ _ HM2.out.code [.int .i64 x0, .int .i64 x1, .int .i64 x2, .int .i64 x3, .int .i64 x4] rfl (fun u hu => by simp at hu; rcases hu with rfl | rfl | rfl | rfl | rfl <;> rfl) (by rw [Hcn.out]; omega) hz2
                    have hadd := HM2.out.addCode (m := ⟨x0, x1, x2, x3, x4⟩) hap (by omega)
                    have hbm3 : Blk W3 bm 39 #[.int .i64 x0, .int .i64 x1, .int .i64 x2, .int .i64 x3, .int .i64 x4] := (hap.2.2.1.block bm HMb2.out.lt (fun e => by
                      have h3 := HM.out.lt (k := bm) (.inr (.inr (.inl e.symm)))
                      have := Hbmw.out
                      omega)).trans HMb2.out
                    rw [Hcn.out] at hadd hr
                    have HAdd := Lib.hid hadd
                    have Hr := Lib.hid hr
                    have hbx := hap.blk HM2.out.code HM2.out.blk (by decide)
                    have HF3 : Hid (∀ w', w' = W2 ∨ w' = W2.alloc (.cells #[.int .i64 x0, .int .i64 x1, .int .i64 x2, .int .i64 x3, .int .i64 x4] 39) ∨ w' = W3 → w'.cell? ⟨bx, 1, none⟩ = some (.slice cA cn cc) ∧ w'.cell? ⟨bm, 0, none⟩ = some (.int .i64 x0) ∧ w'.cell? ⟨bm, 1, none⟩ = some (.int .i64 x1) ∧ w'.cell? ⟨bm, 2, none⟩ = some (.int .i64 x2) ∧ w'.cell? ⟨bm, 3, none⟩ = some (.int .i64 x3) ∧ w'.cell? ⟨bm, 4, none⟩ = some (.int .i64 x4)) := Lib.hid (by
                      rintro w' (rfl | rfl | rfl)
                      · exact ⟨HM2.out.blk.cell 1, HMb2.out.cell 0, HMb2.out.cell 1, HMb2.out.cell 2, HMb2.out.cell 3, HMb2.out.cell 4⟩
                      · exact ⟨(HM2.out.blk.alloc _).cell 1, (HMb2.out.alloc _).cell 0, (HMb2.out.alloc _).cell 1, (HMb2.out.alloc _).cell 2, (HMb2.out.alloc _).cell 3, (HMb2.out.alloc _).cell 4⟩
                      · exact ⟨hbx.cell 1, hbm3.cell 0, hbm3.cell 1, hbm3.cell 2, hbm3.cell 3, hbm3.cell 4⟩)
                    have e3 := hbx.cell 1
                    have f3 := hbx.frozen 1
                    simp only [List.getElem?_toArray, List.getElem?_cons_succ, List.getElem?_cons_zero] at e3
                    have HO9 : Hid (OutS (InSec bx lb (.slice cA cn cc) gv kv) w (W3.setCell ⟨bx, 1, none⟩ (.slice B5 (cn + 1) c5))) := Lib.hid (by
                      have h1 := HAdd.out.2.1
                      rw [← hW2] at h1
                      refine HO.out.trans h1.drewn fun i hi h => ?_
                      rcases HNx.out i h with h | h
                      · exact h
                      · omega)
                    have HW2 := Lib.hid hW2
                    clear hadd hr hap hbx hz2 hbm3 hW2 hcn
                    refine wp_region_lex (Three W2 (W2.alloc (.cells #[.int .i64 x0, .int .i64 x1, .int .i64 x2, .int .i64 x3, .int .i64 x4] 39)) W3 (W3.setCell ⟨bx, 1, none⟩ (.slice B5 (cn + 1) c5)) 6 7 10 8) (by kernel_rfl) (by kernel_rfl) (by have h : ({ wc with drawn := wc.drawn + 1 } : World) = W2 := HW2.out; rw [h]; exact Three.start) ?_
                    iterate 6
                      apply wpLex_step
                      · rfl
                      · intro L w' hC hL hd
                        clear hd
                        have F := HF3.out w' (hC.pend hL (by decide))
                        have HC := Lib.hid hC
                        clear hC
                        go_simp
                        exact ⟨HC.out.keep _ (by decide) (by decide) (by decide), rfl⟩
                      simp only [Act.put, List.setIfInBounds_toArray, List.set_cons_succ, List.set_cons_zero, Nat.reduceAdd]
                    apply wpLex_step
                    · rfl
                    · intro L w' hC hL hd
                      obtain ⟨hw, hC2⟩ := hC.at1 hL (by decide) (by decide) (by decide)
                      subst hw
                      have HC2 := Lib.hid hC2
                      clear hd hC hL hC2
                      go_simp
                      exact ⟨HC2.out, rfl⟩
                    simp only [Act.put, List.setIfInBounds_toArray, List.set_cons_succ, List.set_cons_zero, Nat.reduceAdd]
                    apply wpLex_step
                    · rfl
                    · intro L w' hC hL hd
                      obtain ⟨hw, hC2⟩ := hC.at2 hL (hd ⟨6, .data⟩ (by simp) rfl) (by decide) (by decide)
                      subst hw
                      rw [exec_app (.tmp 109) (.tmp 111) 22 22 rfl _ _ _ _ rfl rfl Hr.out]
                      exact ⟨hC2, rfl⟩
                    simp only [Act.put, List.setIfInBounds_toArray, List.set_cons_succ, List.set_cons_zero, Nat.reduceAdd]
                    iterate 2
                      apply wpLex_step
                      · rfl
                      · intro L w' hC hL hd
                        clear hd
                        have HC := Lib.hid hC
                        clear hC
                        go_simp
                        exact ⟨HC.out.keep _ (by decide) (by decide) (by decide), rfl⟩
                      simp only [Act.put, List.setIfInBounds_toArray, List.set_cons_succ, List.set_cons_zero, Nat.reduceAdd]
                    apply wpLex_step
                    · rfl
                    · intro L w' hC hL hd
                      obtain ⟨hw, hC2⟩ := hC.at3 hL (cover (m := 8) (by kernel_rfl) hd) (by decide) (by decide)
                      subst hw
                      have HC2 := Lib.hid hC2
                      clear hd hC hL hC2
                      go_simp
                      exact ⟨HC2.out, rfl⟩
                    simp only [Act.put, Nat.reduceAdd]
                    apply wpLex_nil
                    intro L w' hC hd
                    obtain rfl := hC.end_ (hd 10 (by decide))
                    clear hC hd
                    go_wp2_with fail
                    go_ret
                    rw [Hcn.out]
                    refine ⟨by rw [HR.out]; rfl, HO9.out, fun y hy => ?_⟩
                    rw [HR.out] at hy
                    cases hy
                    rw [Hcn.out]
                    refine ⟨_, _, _, HAdd.out.1, fun k hk => ?_⟩
                    rcases HAdd.out.2.2 k hk with h | h
                    · exact HNx.out k h
                    · exact .inr (Nat.le_trans Hz2.out h)
              · have hio : i < ol := by omega
                obtain ⟨c, hc⟩ : ∃ c, (regL op)[i]? = some c := ⟨(regL op)[i]'(by rw [Hor.out]; exact hio), List.getElem?_eq_getElem _⟩
                obtain ⟨s, hs⟩ : ∃ s, p[i]? = some s := ⟨p[i]'(by rw [Hpn.out]; omega), List.getElem?_eq_getElem _⟩
                have ho : (offsOf op)[i]? = some (offL c) := by unfold offsOf; rw [List.getElem?_map, hc]; rfl
                obtain ⟨hn1, hn2⟩ := HTi.out.next Hop.out hc hs
                have HN1 := Lib.hid hn1
                have HN2 := Lib.hid hn2
                have hsl := HPs.out s (List.mem_of_getElem? hs)
                obtain ⟨g, hfa, hgl, hgc⟩ := HPtr.out (by omega)
                subst hfa
                have hgb : g ≠ bm := by
                  rintro rfl
                  have h1 := hgc i _ ho
                  rw [HM5.out.cell] at h1
                  rcases (by omega : i = 0 ∨ i = 1 ∨ i = 2) with rfl | rfl | rfl <;> cases h1
                have g0 : wr.cell? ⟨g, i, none⟩ = some (.pointer (some ⟨bm, offL c, none⟩)) := (World.cell?_of_block (a := ⟨g, i, none⟩) (HOi.out.block g hgl hgb)).trans (hgc i _ ho)
                obtain ⟨b0, c0, e0, _, hb0, hcell⟩ := HP.out.at_ hs
                have e1 : pA = some ⟨b0, 0, none⟩ := (Value.slice.inj e0).1
                subst e1
                have p0 : wr.cell? ⟨b0, i, none⟩ = some (.string (mkS s)) := (bcell HBi.out hb0).trans hcell
                have HReg := Lib.hid (register_any s (by omega) wr HSi.out.errs HSi.out.pow)
                have Hcc := Lib.hid hc
                have Hgg := Lib.hid (And.intro hgl hgb)
                have i0 : (0 : Int) ≤ (i : Int) := Int.natCast_nonneg i
                have i1 : (i : Int) < (ol : Int) := by omega
                have i2 : (i : Int) < (pn : Int) := by omega
                clear hc hs ho hn1 hn2 hgl hgc hgb e0 hb0 hcell
                go_wp2_with fail
                refine HReg.out.mono ?_
                rintro e W6 ⟨⟨n, ok, hn, rfl, hr⟩, hb6⟩
                have HB6 := Lib.hid hb6
                have HR := Lib.hid hr
                have HM6 := Lib.hid (HMi.out.below hb6 HMi.out.lt)
                clear hb6 hr g0 p0 HReg
                cases ok with
                | false =>
                  have HN : Hid (takeP nb op p = none) := Lib.hid (HN1.out (by rw [HR.out]; rfl))
                  have HBe : Hid (Below w.heap.size w W6) := Lib.hid (HBi.out.trans (HB6.out.mono HBi.out.size))
                  go_wp2_with fail
                  go_ret
                  exact ⟨by rw [HN.out]; rfl, outS_of HBe.out, fun x h => by rw [HN.out] at h; cases h⟩
                | true =>
                  have HT2 : Hid (TakeTo nb op p (i + 1) (setReg m c n)) := Lib.hid (HN2.out n (by rw [HR.out]; rfl))
                  obtain ⟨o, ho⟩ : ∃ o, offL c = o := ⟨_, rfl⟩
                  have ho3 : 1 ≤ o ∧ o ≤ 3 := by rw [← ho]; exact offL_le c
                  obtain ⟨u, hu0⟩ : ∃ u, m.cells.toArray[o]? = some u := by rcases (by omega : o = 1 ∨ o = 2 ∨ o = 3) with rfl | rfl | rfl <;> exact ⟨_, rfl⟩
                  have hu := (HM6.out.cell o).trans hu0
                  clear hu0
                  have hfz := HM6.out.frozen o
                  have HM7 : Hid (Blk (W6.setCell ⟨bm, o, none⟩ (.int .i64 n)) bm 39 (setReg m c n).cells.toArray) := Lib.hid (by
                    rw [setReg_cells (regL_reg Hcc.out), ho]
                    exact HM6.out.set_ o _)
                  have HO7 : Hid (OutS (fun k => k = bm) wc (W6.setCell ⟨bm, o, none⟩ (.int .i64 n))) := Lib.hid ((HOi.out.trans (outS_of HB6.out) fun _ _ e => e).trans (outS_set (S := fun k => k = bm) W6 bm o _ rfl) fun _ _ e => e)
                  clear ho3
                  go_wp2_with fail
                  go_roundg gk
                  case measure => omega
                  case rel => exact ⟨i + 1, _, by go_num, by omega, HT2, HM7, HO7⟩
          · have hq : ((pn : Int) != (mn : Int)) = true := by simp; omega
            have hq2 : (pn != mn) = true := by simp; omega
            have HN : Hid (takeP nb op p = none) := Lib.hid (by unfold takeP; rw [if_neg (by rw [Hpn.out, Hmn.out]; exact hne)])
            have HBe := Lib.hid HB5.out
            clear s3 hne
            go_wp2_with fail
            go_ret
            refine ⟨by rw [HN.out]; rfl, outS_of HBe.out, fun x h => by rw [HN.out] at h; cases h⟩
end
end Go.Proofs.YtdldochhondifaaGreatDoor
