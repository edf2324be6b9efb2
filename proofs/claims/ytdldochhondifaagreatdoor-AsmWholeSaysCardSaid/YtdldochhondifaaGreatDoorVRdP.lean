/-
  Texts of the claim AsmWholeSays (ByF ByH RdP): what each proves stands at its theorems.
  Conditions: as the theorems say.
-/
import Derived.Deep.QuietTactic
import Derived.BigQuiet
import Derived.RegionTactic
import Derived.BigRegion
import Derived.Laws.BitsAllLaws
import Derived.Test.YtdldochhondifaaGreatDoorVKtC
import Derived.Test.YtdldochhondifaaGreatDoorVKitD
namespace Go.Proofs.YtdldochhondifaaGreatDoor
open Go.RowKit

theorem infoPtr : (Tryz.prog.info? 160).map (fun i => (i.zero, i.size, i.bytes)) = some (some (.pointer none), 1, 8) := by kernel_rfl
/-- The places of the registers that a shape has. -/
def regP (d a b : Bool) (g : Nat) (k : Nat) : List Value :=
  (if d && decide (0 < k) then [.pointer (some ⟨g, 1, none⟩)] else []) ++ (if a && decide (1 < k) then [.pointer (some ⟨g, 2, none⟩)] else []) ++ (if b && decide (2 < k) then [.pointer (some ⟨g, 3, none⟩)] else [])
theorem regP_len (d a b : Bool) (g k : Nat) : (regP d a b g k).length ≤ 3 := by unfold regP; split <;> split <;> split <;> simp
theorem regP_zero (d a b : Bool) (g : Nat) : regP d a b g 0 = [] := by unfold regP; simp
theorem regP_one (d a b : Bool) (g : Nat) : regP d a b g 1 = if d then [.pointer (some ⟨g, 1, none⟩)] else [] := by unfold regP; cases d <;> simp
theorem regP_two (d a b : Bool) (g : Nat) : regP d a b g 2 = regP d a b g 1 ++ if a then [.pointer (some ⟨g, 2, none⟩)] else [] := by unfold regP; cases d <;> cases a <;> simp
theorem regP_three (d a b : Bool) (g : Nat) : regP d a b g 3 = regP d a b g 2 ++ if b then [.pointer (some ⟨g, 3, none⟩)] else [] := by unfold regP; cases d <;> cases a <;> cases b <;> simp
def OwnP (w : World) (base : Nat) (v : Value) (xs : List Value) : Prop := w.ownsRow base 160 1 v xs.length xs

set_option maxRecDepth 100000 in
set_option maxHeartbeats 1000000 in
theorem registers_any (d a b : Bool) (k : Int) (g : Nat) (w : World) :
    Calls Tryz.prog 129 #[.agg #[.bool d, .bool a, .bool b, .int .i64 k], .pointer (some ⟨g, 0, none⟩)] w fun e w' => ∃ v, e = .returned v ∧ OwnP w' w.heap.size v (regP d a b g 3) ∧ Below w.heap.size w w' := by
  obtain ⟨i0, hi, hz0, hz1, hz2⟩ := info_parts infoPtr
  have x0 : ∀ w, (Instr.index 221 (.agg #[.bool d, .pointer (some ⟨g, 1, none⟩), .bool a, .pointer (some ⟨g, 2, none⟩), .bool b, .pointer (some ⟨g, 3, none⟩)]) (.int .i64 0)).run Tryz.prog w = .ok (.agg #[.bool d, .pointer (some ⟨g, 1, none⟩)]) w := fun _ => by kernel_rfl
  have x1 : ∀ w, (Instr.index 221 (.agg #[.bool d, .pointer (some ⟨g, 1, none⟩), .bool a, .pointer (some ⟨g, 2, none⟩), .bool b, .pointer (some ⟨g, 3, none⟩)]) (.int .i64 1)).run Tryz.prog w = .ok (.agg #[.bool a, .pointer (some ⟨g, 2, none⟩)]) w := fun _ => by kernel_rfl
  have x2 : ∀ w, (Instr.index 221 (.agg #[.bool d, .pointer (some ⟨g, 1, none⟩), .bool a, .pointer (some ⟨g, 2, none⟩), .bool b, .pointer (some ⟨g, 3, none⟩)]) (.int .i64 2)).run Tryz.prog w = .ok (.agg #[.bool b, .pointer (some ⟨g, 3, none⟩)]) w := fun _ => by kernel_rfl
  have HP : Hid (∀ v (w' : World), OwnP w' w.heap.size v (regP d a b g 3) → Below w.heap.size w w' → ∃ v', Ending.returned v = .returned v' ∧ OwnP w' w.heap.size v' (regP d a b g 3) ∧ Below w.heap.size w w') :=
    Lib.hid fun v w' h1 h2 => ⟨v, rfl, h1, h2⟩
  go_enter Tryz.func129, Tryz.ntmps129
  go_wp2_with fail
  go_quiet (fail)
  go_wp2_with fail
  have hb0 : Below w.heap.size w ((w.alloc (.cells #[.bool d, .bool a, .bool b, .int .i64 k] 129)).drewN nq) := below_drewN ((Below.refl _ _).alloc (Nat.le_refl _) _) _
  generalize (w.alloc (.cells #[.bool d, .bool a, .bool b, .int .i64 k] 129)).drewN nq = W at *
  have HB0 := Lib.hid hb0
  clear hb0
  go_loopw [5, 27] (fun v i wr => ∃ k : Nat, k ≤ 3 ∧ i = .int .i64 k ∧ Hid (Below w.heap.size w wr) ∧ Hid (OwnP wr w.heap.size v (regP d a b g k))) (fun _ i _ => 3 - (intOf i).toNat)
  case atStart => exact ⟨0, by omega, rfl, HB0, Lib.hid (by rw [regP_zero]; exact World.ownsRow_nil _ _ _ _)⟩
  case round =>
    obtain ⟨k, hk, rfl, HB, HO⟩ := hrel
    have hlen := regP_len d a b g k
    have hsz := HB.out.size
    rcases (by omega : k = 0 ∨ k = 1 ∨ k = 2 ∨ k = 3) with rfl | rfl | rfl | rfl
    case inr.inr.inr =>
      go_wp2_with fail
      go_ret
      exact HP.out _ _ HO.out HB.out
    case inl =>
      cases d
      · go_wp2_with fail
        go_roundw
        case rel => exact ⟨1, by omega, by go_num, Lib.hid (HB.out.alloc hsz _), Lib.hid (by rw [regP_one]; simp only [Bool.false_eq_true, if_false]; rw [regP_zero] at HO; exact HO.out.alloc _)⟩
        case measure => simp [intOf]
      · go_wp2_with (at_builtin; refine app_one rfl _ _ 159 160 rfl (.pointer none) 1 8 Tryz.underlying159 infoPtr rfl (by decide) (by decide) w.heap.size _ _ _ rfl (HO.out.alloc _) _ [.pointer (some ⟨g, 1, none⟩)] rfl rfl (fun x hx => by simp at hx; subst hx; rfl) (by simp) (by omega) (by simp; omega) ?_; intro v' w3 HA')
        go_roundw
        case rel =>
          refine ⟨1, by omega, by go_num, Lib.hid ((HB.out.alloc hsz _).trans HA'.out.below), Lib.hid ?_⟩
          have h := HA'.out.own
          unfold OwnP
          rw [regP_one]
          rw [regP_zero] at h
          exact h
        case measure => simp [intOf]
    case inr.inl =>
      cases a
      · go_wp2_with fail
        go_roundw
        case rel => exact ⟨2, by omega, by go_num, Lib.hid (HB.out.alloc hsz _), Lib.hid (by rw [regP_two]; simp only [Bool.false_eq_true, if_false, List.append_nil]; exact HO.out.alloc _)⟩
        case measure => simp [intOf]
      · go_wp2_with (at_builtin; refine app_one rfl _ _ 159 160 rfl (.pointer none) 1 8 Tryz.underlying159 infoPtr rfl (by decide) (by decide) w.heap.size _ _ _ rfl (HO.out.alloc _) _ [.pointer (some ⟨g, 2, none⟩)] rfl rfl (fun x hx => by simp at hx; subst hx; rfl) (by simp) (by omega) (by simp; omega) ?_; intro v' w3 HA')
        go_roundw
        case rel =>
          refine ⟨2, by omega, by go_num, Lib.hid ((HB.out.alloc hsz _).trans HA'.out.below), Lib.hid ?_⟩
          have h := HA'.out.own
          unfold OwnP
          rw [regP_two]
          rw [List.length_append]
          exact h
        case measure => simp [intOf]
    case inr.inr.inl =>
      cases b
      · go_wp2_with fail
        go_roundw
        case rel => exact ⟨3, by omega, by go_num, Lib.hid (HB.out.alloc hsz _), Lib.hid (by rw [regP_three]; simp only [Bool.false_eq_true, if_false, List.append_nil]; exact HO.out.alloc _)⟩
        case measure => simp [intOf]
      · go_wp2_with (at_builtin; refine app_one rfl _ _ 159 160 rfl (.pointer none) 1 8 Tryz.underlying159 infoPtr rfl (by decide) (by decide) w.heap.size _ _ _ rfl (HO.out.alloc _) _ [.pointer (some ⟨g, 3, none⟩)] rfl rfl (fun x hx => by simp at hx; subst hx; rfl) (by simp) (by omega) (by simp; omega) ?_; intro v' w3 HA')
        go_roundw
        case rel =>
          refine ⟨3, by omega, by go_num, Lib.hid ((HB.out.alloc hsz _).trans HA'.out.below), Lib.hid ?_⟩
          have h := HA'.out.own
          unfold OwnP
          rw [regP_three]
          rw [List.length_append]
          exact h
        case measure => simp [intOf]
end Go.Proofs.YtdldochhondifaaGreatDoor
namespace Go.Proofs.YtdldochhondifaaGreatDoor
open Go.RowKit

/-- The slice's address, of so many pointers to numbers, reads as ps. -/
def PtrsAt (w : World) (A : Option Addr) (L : Nat) (ps : List Value) : Prop :=
  ps.length = L ∧ (0 < L → ∃ b off cs, A = some ⟨b, off, none⟩ ∧ Blk w b 160 cs ∧ ∀ (k : Nat) (p : Value), ps[k]? = some p → cs[off + k]? = some p)
theorem PtrsAt.kept {w w' : World} {A : Option Addr} {L : Nat} {ps : List Value} (h : PtrsAt w A L ps) (hk : ∀ b cs, Blk w b 160 cs → Blk w' b 160 cs) : PtrsAt w' A L ps :=
  ⟨h.1, fun hl => by
    obtain ⟨b, off, cs, e, hb, hc⟩ := h.2 hl
    exact ⟨b, off, cs, e, hk b cs hb, hc⟩⟩
theorem OwnP.ptrs {w : World} {base : Nat} {v : Value} {xs : List Value} (h : OwnP w base v xs) : ∃ A c, v = .slice A xs.length c ∧ xs.length ≤ c ∧ PtrsAt w A xs.length xs := by
  rcases h.2 with ⟨rfl, hn⟩ | ⟨g, cap, cur, rfl, _, hgg, hnc, _, _, hx⟩
  · exact ⟨none, 0, by rw [hn], by omega, rfl, fun h => by omega⟩
  · refine ⟨some ⟨g, 0, none⟩, cap, rfl, hnc, rfl, fun _ => ⟨g, 0, cur, rfl, hgg, fun k p hk => ?_⟩⟩
    have hc := World.ownsRow.cells h (g := g) rfl k p hk
    have e : (⟨g, 0, none⟩ : Addr).add k = ⟨g, k, none⟩ := by
      unfold Addr.add
      split <;> simp_all
    rw [e, cell_of_row w g k cur 160 (0, 0) hgg] at hc
    rw [Nat.zero_add]
    exact hc
/-- The pointers lead to those numbers, in the block g of the cells cs. -/
def LeadTo (cs : Array Value) (g : Nat) (ps : List Value) (rs : List Int) : Prop :=
  ps.length = rs.length ∧ ∀ (k : Nat) (x : Int), rs[k]? = some x → ∃ o, ps[k]? = some (.pointer (some ⟨g, o, none⟩)) ∧ cs[o]? = some (.int .i64 x)
theorem lead_regs (op dst a b n : Int) (g : Nat) : LeadTo #[.int .i64 op, .int .i64 dst, .int .i64 a, .int .i64 b, .int .i64 n] g (regP (shD op) (shA op) (shB op) g 3) (regsS ⟨op, dst, a, b, n⟩) := by
  unfold LeadTo regP regsS
  simp only
  cases shD op <;> cases shA op <;> cases shB op <;> simp only [Bool.false_and, Bool.true_and, if_true, if_false, Bool.false_eq_true, decide_true, show (0 < 3) = True by simp, show (1 < 3) = True by simp, show (2 < 3) = True by simp, List.nil_append, List.append_nil, List.cons_append] <;>
    refine ⟨rfl, fun k x hk => ?_⟩ <;>
    (match k, hk with
      | 0, hk => first | (simp at hk; done) | (simp at hk; subst hk; exact ⟨_, rfl, rfl⟩)
      | 1, hk => first | (simp at hk; done) | (simp at hk; subst hk; exact ⟨_, rfl, rfl⟩)
      | 2, hk => first | (simp at hk; done) | (simp at hk; subst hk; exact ⟨_, rfl, rfl⟩)
      | _ + 3, hk => simp at hk)

/-- A slice's length. -/
def lenOf : Value → Nat
  | .slice _ n _ => n
  | _ => 0
/-- The loop that packs the registers: pre are packed, rs' are left. -/
def codeRel (W : World) (base : Nat) (gm gs : Nat) (cm cs : Array Value) (rs : List Int) (xs : List Int) (op : Int) (v l : Value) (wr : World) : Prop :=
  ∃ (A : Option Addr) (L c : Nat) (ps' : List Value) (rs' pre : List Int), l = .slice A L c ∧ L ≤ c ∧ L ≤ 3 ∧ Hid (PtrsAt wr A L ps') ∧ Hid (LeadTo cm gm ps' rs') ∧ Hid (packS rs = pre ++ packS rs') ∧ pre.length + rs'.length ≤ 3 ∧
    Hid (∀ x ∈ rs', 0 ≤ x ∧ x < 16) ∧ Hid (Below base W wr) ∧ Hid (OwnB wr base v (xs ++ (op :: pre))) ∧ Hid (Blk wr gm 39 cm) ∧ Hid (Blk wr gs 129 cs)
theorem LeadTo.uncons {cs : Array Value} {g : Nat} {ps : List Value} {x : Int} {rs : List Int} (h : LeadTo cs g ps (x :: rs)) : ∃ o ps', ps = .pointer (some ⟨g, o, none⟩) :: ps' ∧ cs[o]? = some (.int .i64 x) ∧ LeadTo cs g ps' rs := by
  obtain ⟨hl, hc⟩ := h
  obtain ⟨o, h0, h1⟩ := hc 0 x rfl
  match ps, hl with
  | p :: ps', hl =>
    simp only [List.getElem?_cons_zero, Option.some.injEq] at h0
    subst h0
    exact ⟨o, ps', rfl, h1, by simpa using hl, fun k y hk => by
      obtain ⟨o', h2, h3⟩ := hc (k + 1) y (by simpa using hk)
      exact ⟨o', by simpa using h2, h3⟩⟩
theorem PtrsAt.first {w : World} {A : Option Addr} {L : Nat} {p : Value} {ps : List Value} (h : PtrsAt w A L (p :: ps)) : ∃ b off cs, A = some ⟨b, off, none⟩ ∧ Blk w b 160 cs ∧ w.cell? ⟨b, off, none⟩ = some p ∧ ∀ q ps', ps = q :: ps' → w.cell? ⟨b, off + 1, none⟩ = some q := by
  obtain ⟨hl, hc⟩ := h
  simp only [List.length_cons] at hl
  obtain ⟨b, off, cs, e, hb, hcs⟩ := hc (by omega)
  exact ⟨b, off, cs, e, hb, by rw [hb.cell]; exact hcs 0 p rfl, fun q ps' hq => by subst hq; rw [hb.cell]; exact hcs 1 q rfl⟩
theorem PtrsAt.drop2 {w : World} {A : Option Addr} {L c : Nat} {p q : Value} {ps : List Value} (h : PtrsAt w A L (p :: q :: ps)) (hc : L ≤ c) : PtrsAt w (if c = 2 then A else A.map (·.add 2)) (L - 2) ps := by
  obtain ⟨hl, hcc⟩ := h
  simp only [List.length_cons] at hl
  refine ⟨by omega, fun hpos => ?_⟩
  obtain ⟨b, off, cs, rfl, hb, hcs⟩ := hcc (by omega)
  rw [if_neg (by omega)]
  refine ⟨b, off + 2, cs, by simp [Addr.add], hb, fun k r hk => ?_⟩
  have := hcs (k + 2) r (by simpa using hk)
  rw [← this]
  congr 1
  omega

theorem pack_bits (x y : Int) (hx : 0 ≤ x ∧ x < 16) (hy : 0 ≤ y ∧ y < 16) : IntKind.u8.wrap (bits BinOp.or IntKind.i64 (x * 16) y) = 16 * x + y := by
  have key : ∀ a b : Fin 16, IntKind.u8.wrap (bits BinOp.or IntKind.i64 ((a.val : Int) * 16) (b.val : Int)) = 16 * (a.val : Int) + (b.val : Int) := by decide +kernel
  have := key ⟨x.toNat, by omega⟩ ⟨y.toNat, by omega⟩
  simp only [show ((x.toNat : Nat) : Int) = x from by omega, show ((y.toNat : Nat) : Int) = y from by omega] at this
  exact this

set_option maxRecDepth 100000 in
set_option maxHeartbeats 2000000 in
theorem code_any (v : Value) (xs : List Int) (op dst a b n : Int) (base : Nat) (w : World) (ho : OwnB w base v xs) (hb : base ≤ w.heap.size) (ht : Tab w) (hop : isOp op = true) (hr : RegsOk ⟨op, dst, a, b, n⟩) (hn : I64 n) (hl : xs.length ≤ 1000000) :
    Calls Tryz.prog 132 #[v, .agg #[.int .i64 op, .int .i64 dst, .int .i64 a, .int .i64 b, .int .i64 n]] w fun e w' => ∃ v', e = .returned v' ∧ OwnB w' base v' (xs ++ codeS ⟨op, dst, a, b, n⟩) ∧ Below base w w' := by
  obtain ⟨i0, hi, hz0, hz1, hz2⟩ := info_parts infoByte
  have HO := Lib.hid ho
  have HT := Lib.hid (ht.own ((Below.refl _ _).alloc (Nat.le_refl _) (.cells #[.int .i64 op, .int .i64 dst, .int .i64 a, .int .i64 b, .int .i64 n] 39)))
  have HR := Lib.hid (regs_in _ hr)
  have HN := Lib.hid hn
  have h47 : op % 256 = op := by rw [isOp_iff] at hop; omega
  clear ho ht hop hr hn
  go_enter Tryz.func132, Tryz.ntmps132
  go_wp2_with fail
  refine (Of_any _ _ HT.out).mono ?_
  rintro e w1 ⟨rfl, hb1⟩
  have hz : w.heap.size < w1.heap.size := by have := hb1.size; simp at this; omega
  have HM1 : Hid (Blk w1 w.heap.size 39 #[.int .i64 op, .int .i64 dst, .int .i64 a, .int .i64 b, .int .i64 n]) := Lib.hid ((Blk.new w _ _).below hb1 (by simp))
  have HB1 : Hid (Below w.heap.size w w1) := Lib.hid (((Below.refl _ _).alloc (Nat.le_refl _) _).trans (hb1.mono (by simp)))
  have c0 := HM1.out.cell 0
  clear hb1
  go_wp2_with (at_builtin; refine app_one rfl _ _ 72 5 rfl (.int .u8 0) 1 1 Tryz.underlying72 infoByte rfl (by decide) (by decide) base v _ _ rfl ((HO.out.below HB1.out rfl).alloc _) _ [.int .u8 op] rfl rfl (fun x hx => by simp at hx; subst hx; rfl) (by simp) (by omega) (by simp; omega) ?_; intro v1 w3 HA3; have HS3 := Lib.hid (HA3.out.blk ((HO.out.below HB1.out rfl).alloc _) (Blk.new w1 129 _) (by decide)); have r0 := HS3.out.cell 0; have r1 := HS3.out.cell 1; have r2 := HS3.out.cell 2; have r3 := HS3.out.cell 3)
  have HM3 := Lib.hid (HA3.out.blk ((HO.out.below HB1.out rfl).alloc _) (HM1.out.alloc (.cells #[.bool (shD op), .bool (shA op), .bool (shB op), .int .i64 (shK op)] 129)) (by decide))
  have HO3 := Lib.hid (OwnB.snoc HA3.out.own)
  have HB3 : Hid (Below base w w3) := Lib.hid (((HB1.out.mono hb).alloc (by omega) _).trans HA3.out.below)
  clear HA3 r0 r1 r2 r3 c0 HO HM1 HB1
  generalize w.heap.size = gm at *
  generalize w1.heap.size = gs at *
  clear hz
  refine (registers_any _ _ _ _ _ _).mono ?_
  rintro e w4 ⟨vp, rfl, hp, hb4⟩
  have HM4 := Lib.hid (HM3.out.below hb4 HM3.out.lt)
  have HS4 := Lib.hid (HS3.out.below hb4 HS3.out.lt)
  have HO4 := Lib.hid (HO3.out.below hb4 rfl)
  have hz3 : base ≤ w3.heap.size := by have := HM3.out.lt; omega
  have HB4 := Lib.hid (HB3.out.trans (hb4.mono hz3))
  obtain ⟨A0, cp0, rfl, hcp0, hpt⟩ := hp.ptrs
  have HP4 := Lib.hid hpt
  have HL := Lib.hid (lead_regs op dst a b n gm)
  have hrl := regs_len ⟨op, dst, a, b, n⟩
  clear hp hb4 hpt HM3 HS3 HO3 HB3
  go_wp2_with fail
  have HPE : Hid (∀ v' (w' : World), OwnB w' base v' (xs ++ codeS ⟨op, dst, a, b, n⟩) → Below base w w' → ∃ v'', Ending.returned v' = .returned v'' ∧ OwnB w' base v'' (xs ++ codeS ⟨op, dst, a, b, n⟩) ∧ Below base w w') :=
    Lib.hid fun v w' h1 h2 => ⟨v, rfl, h1, h2⟩
  go_loopw [0, 7] (codeRel w base gm gs #[.int .i64 op, .int .i64 dst, .int .i64 a, .int .i64 b, .int .i64 n] #[.bool (shD op), .bool (shA op), .bool (shB op), .int .i64 (shK op)] (regsS ⟨op, dst, a, b, n⟩) xs op) (fun _ l _ => lenOf l)
  case atStart => exact ⟨A0, _, cp0, _, _, [], rfl, hcp0, by rw [HL.out.1]; exact hrl, HP4, HL, Lib.hid rfl, by simpa using hrl, HR, HB4, HO4, HM4, HS4⟩
  case round =>
    obtain ⟨A, L, c, ps', rs', pre, rfl, hLc, hL3, HP, HLd, HPk, hpl, HRr, HB, HO, HM, HS⟩ := hrel
    clear HP4 HB4 HO4 HM4 HS4 hrl HL HR
    have hz : base ≤ wr.heap.size := by have := HM.out.lt; omega
    rcases rs' with _ | ⟨x, rs'⟩
    · have hps : ps' = [] := List.eq_nil_of_length_eq_zero HLd.out.1
      subst hps
      obtain rfl : L = 0 := HP.out.1.symm
      have HQ : Hid (OwnB wr base u0 (xs ++ (op :: packS (regsS ⟨op, dst, a, b, n⟩)))) := Lib.hid (by rw [HPk.out]; simp only [packS, List.append_nil]; exact HO.out)
      have HLen : Hid ((xs ++ (op :: packS (regsS ⟨op, dst, a, b, n⟩))).length ≤ 1000000000) := Lib.hid (by rw [HPk.out]; simp [packS]; omega)
      clear HP HLd HPk HRr HO
      have r3 := HS.out.cell 3
      by_cases hk : shK op = 0
      · have hk0 : (shK op != 0) = false := by simp [hk]
        have Hk := Lib.hid hk
        clear hk
        go_wp2_with fail
        go_ret
        refine HPE.out _ _ ?_ HB.out
        unfold codeS
        rw [if_pos Hk.out, List.append_nil]
        exact HQ.out
      · have hk0 : (shK op != 0) = true := by simp [hk]
        have Hk := Lib.hid hk
        have r4 := HM.out.cell 4
        clear hk
        go_wp2_with fail
        refine (Fold_any n _ HN.out).mono ?_
        rintro e w5 ⟨rfl, rfl⟩
        go_wp2_with fail
        refine (Number_any _ _ (foldS n) base _ (foldS_lt n HN.out) HQ.out hz HLen.out).mono ?_
        rintro e w6 ⟨v6, rfl, ho6, hb6⟩
        have HO6 := Lib.hid ho6
        have HB6 := Lib.hid (HB.out.trans hb6)
        clear ho6 hb6
        go_wp2_with fail
        go_ret
        refine HPE.out _ _ ?_ HB6.out
        unfold codeS
        rw [if_neg Hk.out, ← List.cons_append, ← List.append_assoc]
        exact HO6.out
    · obtain ⟨o, ps2, hps, hco, HLd2'⟩ := HLd.out.uncons
      subst hps
      have HLd2 := Lib.hid HLd2'
      obtain ⟨bp, off, cp, hA, hbp, hc0, hc1⟩ := HP.out.first
      subst hA
      have hx16 := HRr.out x (by simp)
      have cx : wr.cell? ⟨gm, o, none⟩ = some (.int .i64 x) := by rw [HM.out.cell]; exact hco
      rcases rs' with _ | ⟨y, rs'⟩
      · have hps : ps2 = [] := List.eq_nil_of_length_eq_zero HLd2.out.1
        subst hps
        obtain rfl : L = 1 := HP.out.1.symm
        have hx256 : x % 256 = x := by omega
        clear hc1 HLd2' hco
        by_cases hk : shK op = 0
        · have hk0 : (shK op != 0) = false := by simp [hk]
          have Hk := Lib.hid hk
          clear hk
          go_wp2_with (at_builtin; refine app_one rfl _ _ 72 5 rfl (.int .u8 0) 1 1 Tryz.underlying72 infoByte rfl (by decide) (by decide) base u0 _ _ rfl HO.out _ [.int .u8 x] rfl rfl (fun x hx => by simp at hx; subst hx; rfl) rfl (by simp; omega) hz ?_; intro v1 w3 HA3; have HS3 := Lib.hid (HA3.out.blk HO.out HS.out (by decide)); have r3 := HS3.out.cell 3; have r4 := (HA3.out.blk HO.out HM.out (by decide)).cell 4)
          have HLen : Hid ((xs ++ (op :: packS (regsS ⟨op, dst, a, b, n⟩))).length ≤ 1000000000) := Lib.hid (by rw [HPk.out]; simp [packS]; omega)
          have HQ : Hid (OwnB w3 base v1 (xs ++ (op :: packS (regsS ⟨op, dst, a, b, n⟩)))) := Lib.hid (by rw [HPk.out]; have := OwnB.snoc HA3.out.own; simpa [packS] using this)
          have HB3 := Lib.hid (HB.out.trans HA3.out.below)
          go_ret
          refine HPE.out _ _ ?_ HB3.out
          unfold codeS
          rw [if_pos Hk.out, List.append_nil]
          exact HQ.out
        · have hk0 : (shK op != 0) = true := by simp [hk]
          have Hk := Lib.hid hk
          clear hk
          go_wp2_with (at_builtin; refine app_one rfl _ _ 72 5 rfl (.int .u8 0) 1 1 Tryz.underlying72 infoByte rfl (by decide) (by decide) base u0 _ _ rfl HO.out _ [.int .u8 x] rfl rfl (fun x hx => by simp at hx; subst hx; rfl) rfl (by simp; omega) hz ?_; intro v1 w3 HA3; have HS3 := Lib.hid (HA3.out.blk HO.out HS.out (by decide)); have r3 := HS3.out.cell 3; have r4 := (HA3.out.blk HO.out HM.out (by decide)).cell 4)
          have HLen : Hid ((xs ++ (op :: packS (regsS ⟨op, dst, a, b, n⟩))).length ≤ 1000000000) := Lib.hid (by rw [HPk.out]; simp [packS]; omega)
          have HQ : Hid (OwnB w3 base v1 (xs ++ (op :: packS (regsS ⟨op, dst, a, b, n⟩)))) := Lib.hid (by rw [HPk.out]; have := OwnB.snoc HA3.out.own; simpa [packS] using this)
          have HB3 := Lib.hid (HB.out.trans HA3.out.below)
          have hz3 : base ≤ w3.heap.size := by have := HS3.out.lt; have := HA3.out.below.size; omega
          clear r3 r4 HA3
          refine (Fold_any n _ HN.out).mono ?_
          rintro e w5 ⟨rfl, rfl⟩
          go_wp2_with fail
          refine (Number_any _ _ (foldS n) base _ (foldS_lt n HN.out) HQ.out hz3 HLen.out).mono ?_
          rintro e w6 ⟨v6, rfl, ho6, hb6⟩
          have HO6 := Lib.hid ho6
          have HB6 := Lib.hid (HB3.out.trans hb6)
          clear ho6 hb6
          go_wp2_with fail
          go_ret
          refine HPE.out _ _ ?_ HB6.out
          unfold codeS
          rw [if_neg Hk.out, ← List.cons_append, ← List.append_assoc]
          exact HO6.out
      · obtain ⟨o2, ps3, hps, hco2, HLd3'⟩ := HLd2'.uncons
        subst hps
        have HLd3 := Lib.hid HLd3'
        have hy16 := HRr.out y (by simp)
        have cy : wr.cell? ⟨gm, o2, none⟩ = some (.int .i64 y) := by rw [HM.out.cell]; exact hco2
        have cq := hc1 _ _ rfl
        have hlen : 2 ≤ L := by have := HP.out.1; simp at this; omega
        have hb1 : ((L : Int) == 1) = false := by simp; omega
        have hl0 : (0 : Int) < (L : Int) := by omega
        have hl1 : (1 : Int) < (L : Int) := by omega
        have hw1 : IntKind.i64.wrap (x * 16) = x * 16 := by rw [IntKind.wrap_i64]; omega
        have hw2 := pack_bits x y hx16 hy16
        clear hc1 HLd2' hco hco2 HLd3'
        go_wp2_with fail
        go_region_law (refine step_append_lies _ rfl (.tmp 37) (.tmp 51) 72 rfl base 5 i0 (.int .u8 0) 1 1 Tryz.underlying72 hi hz0 hz1 hz2 rfl (by decide) u0 _ _ (by simp [Act.eval]) (World.ownsRow.alloc (World.ownsRow.drew HO.out) _) ⟨wr.heap.size, 0, none⟩ 1 1 [.int .u8 (16 * x + y)] (by simp [Act.eval]) rfl (cell_one_new _ _ _) (fun x hx => by simp at hx; subst hx; rfl) (by omega) (by unfold maxLen; simp; omega) (by simp; omega) (by simp; omega) _ rfl ?_; intro g' cap' w3 hown' hgrow3 hat3 hlt3; have HO' := Lib.hid hown'; have HG' := Lib.hid hgrow3; have HA' := Lib.hid hat3; clear hown' hgrow3 hat3 hlt3)
        have hL2 : (2 : Int) ≤ (L : Int) := by omega
        have hLc' : (L : Int) ≤ (c : Int) := by omega
        all_goals
          go_wp2_with fail
          go_roundw
          case rel =>
            have hkb := fun {g : Nat} {t : TypeId} {cs : Array Value} (hb : Blk wr g t cs) (hne : 5 ≠ t) => grown_blk HG'.out (World.ownsRow.alloc (World.ownsRow.drew HO.out) _) (Blk.alloc (w := wr.drew) hb _) hne
            refine ⟨_, L - 2, c - 2, ps3, rs', pre ++ [16 * x + y], rfl, by omega, by omega, Lib.hid ?_, HLd3, Lib.hid ?_, ?_, Lib.hid fun z hz => HRr.out z (by simp [hz]), Lib.hid ((HB.out.trans ((below_drew ((Below.refl base wr).alloc hz _)).grown HG'.out (by simp; omega) (own_block_ge HO.out)))), Lib.hid ?_, Lib.hid (hkb HM.out (by decide)), Lib.hid (hkb HS.out (by decide))⟩
            · have h2 := (HP.out.drop2 hLc).kept fun b cs hb => hkb hb (by decide)
              simp only [Option.map_some, Addr.add, show ¬ (2 : Nat) = 0 by omega, if_false] at h2
              exact h2
            · rw [HPk.out, List.append_assoc]
              rfl
            · simp at hpl ⊢
              omega
            · have h3 := OwnB.snoc HO'.out
              simpa using h3
          case measure => simp [lenOf]; omega
end Go.Proofs.YtdldochhondifaaGreatDoor
namespace Go.Proofs.YtdldochhondifaaGreatDoor
open Go.RowKit

/-- A list's bytes. -/
def bytesS (ms : List Mac) : List Int := (ms.map codeS).flatten
theorem bytesS_snoc (ms : List Mac) (k : Nat) (m : Mac) (h : ms[k]? = some m) : bytesS (ms.take (k + 1)) = bytesS (ms.take k) ++ codeS m := by
  unfold bytesS
  rw [take_snoc' ms k m h, List.map_append, List.flatten_append]
  simp
/-- An instruction that may be written: it has an Op, registers in range, a number of Go's int. -/
structure Writes (m : Mac) : Prop where
  op : isOp m.op = true
  regs : RegsOk m
  n : I64 m.n
theorem codeS_len (m : Mac) (h : I64 m.n) : (codeS m).length ≤ 14 := by
  unfold codeS
  have h1 := pack_len (regsS m)
  have h2 := regs_len m
  have h3 := numS_len64 (foldS m.n) (foldS_lt m.n h)
  split <;> simp <;> omega
theorem bytesS_len (ms : List Mac) (h : ∀ m ∈ ms, I64 m.n) : (bytesS ms).length ≤ 14 * ms.length := by
  induction ms with
  | nil => simp [bytesS]
  | cons m ms ih =>
    have h1 := codeS_len m (h m (by simp))
    have h2 := ih fun x hx => h x (by simp [hx])
    unfold bytesS at *
    simp only [List.map_cons, List.flatten_cons, List.length_append, List.length_cons]
    omega

set_option maxRecDepth 100000 in
set_option maxHeartbeats 2000000 in
theorem BOf_any (v : Value) (ms : List Mac) (w : World) (hv : MacsAt w w.heap.size v ms) (ht : Tab w) (hok : ∀ m ∈ ms, Writes m) (hl5 : ms.length ≤ 5000) :
    Calls Tryz.prog 94 #[v] w fun e w' => ∃ v', e = .returned v' ∧ OwnB w' w.heap.size v' (bytesS ms) ∧ Below w.heap.size w w' := by
  have HT := Lib.hid ht
  have HW := Lib.hid hok
  obtain ⟨A, c, rfl, h1, h2, h3⟩ := hv
  have HC := Lib.hid h3
  have HPE : Hid (∀ v' (w' : World), OwnB w' w.heap.size v' (bytesS ms) → Below w.heap.size w w' → ∃ v'', Ending.returned v' = .returned v'' ∧ OwnB w' w.heap.size v'' (bytesS ms) ∧ Below w.heap.size w w') :=
    Lib.hid fun v w' h1 h2 => ⟨v, rfl, h1, h2⟩
  clear h3 ht hok
  obtain ⟨len, hlen⟩ : ∃ len, ms.length = len := ⟨_, rfl⟩
  have HL := Lib.hid hlen
  rw [hlen] at h1 h2 hl5 ⊢
  clear hlen
  go_enter Tryz.func94, Tryz.ntmps94
  go_wp2_with fail
  go_loopw [3, 8] (fun v i wr => ∃ k : Nat, k ≤ len ∧ i = .int .i64 k ∧ Hid (Below w.heap.size w wr) ∧ Hid (OwnB wr w.heap.size v (bytesS (ms.take k)))) (fun _ i _ => len - (intOf i).toNat)
  case atStart => exact ⟨0, Nat.zero_le _, rfl, Lib.hid (Below.refl _ _), Lib.hid (OwnB.nil _ _)⟩
  case round =>
    obtain ⟨k, hk, rfl, HB, HO⟩ := hrel
    by_cases hlt : k < len
    · obtain ⟨b, off, hA, hbw, hcell⟩ := HC.out (by rw [HL.out]; omega)
      subst hA
      obtain ⟨⟨op, dst, a, b', n⟩, hm⟩ : ∃ m, ms[k]? = some m := ⟨ms[k]'(by rw [HL.out]; exact hlt), List.getElem?_eq_getElem _⟩
      obtain ⟨c0, c1, c2, c3, c4⟩ := (hcell k _ hm).below HB.out hbw
      have Hm := Lib.hid hm
      have Hw := Lib.hid (HW.out _ (List.mem_of_getElem? hm))
      have HQ : Hid ((bytesS (ms.take k)).length ≤ 1000000) := Lib.hid (by
        have := bytesS_len (ms.take k) fun m hm' => (HW.out m (List.mem_of_mem_take hm')).n
        rw [List.length_take] at this
        omega)
      have hz := HB.out.size
      have HcB : Hid (Below w.heap.size w (wr.alloc (.cells #[.int .i64 op, .int .i64 dst, .int .i64 a, .int .i64 b', .int .i64 n] 39))) := Lib.hid (HB.out.alloc hz _)
      clear hm hcell
      go_wp2_with fail
      refine (code_any _ _ op dst a b' n w.heap.size _ (HO.out.below ((Below.refl _ _).alloc (Nat.le_refl _) _) rfl) (by simp; omega) (HT.out.own HcB.out) Hw.out.op Hw.out.regs Hw.out.n HQ.out).mono ?_
      rintro e w2 ⟨v2, rfl, ho2, hb2⟩
      have HO2 := Lib.hid ho2
      have HB2 := Lib.hid (HcB.out.trans hb2)
      clear ho2 hb2 c0 c1 c2 c3 c4
      go_wp2_with fail
      go_roundw
      case rel => exact ⟨k + 1, by omega, by go_num, HB2, Lib.hid (by rw [bytesS_snoc ms k _ Hm.out]; exact HO2.out)⟩
      case measure => simp [intOf]; omega
    · go_wp2_with fail
      go_ret
      refine HPE.out _ _ ?_ HB.out
      have := HO.out
      rwa [List.take_of_length_le (by rw [HL.out]; omega)] at this
end Go.Proofs.YtdldochhondifaaGreatDoor
namespace Go.Proofs.YtdldochhondifaaGreatDoor
open Go.RowKit

/-- The bytes that are told. -/
def codeL (ms : List Mac) : List Int := if (checkS ms).1 = 0 then bytesS ms else []
theorem writes_of_check {ms : List Mac} (h : (checkS ms).1 = 0) (hi : ∀ m ∈ ms, m.ok) : ms.length ≤ 5000 ∧ ∀ m ∈ ms, Writes m := by
  obtain ⟨hl, hall, _⟩ := (code_ok_iff ms).1 h
  refine ⟨hl, fun m hm => ?_⟩
  obtain ⟨j, hj⟩ := List.mem_iff_getElem?.1 hm
  have ⟨h1, h2⟩ := regs_of_fault m _ (hall j m hj)
  exact ⟨h1, h2, (hi m hm).n⟩

set_option maxRecDepth 100000 in
set_option maxHeartbeats 2000000 in
theorem CodeBytes_any (v : Value) (ms : List Mac) (w : World) (hv : MacsAt w w.heap.size v ms) (hok : ∀ m ∈ ms, Writes m) (hl5 : ms.length ≤ 5000) :
    Calls Tryz.prog 41 #[v] w fun e w' => ∃ v', e = .returned v' ∧ OwnB w' w.heap.size v' (bytesS ms) ∧ Below w.heap.size w w' := by
  have HW := Lib.hid hok
  obtain ⟨A, c, rfl, h1, h2, h3⟩ := hv
  have HC := Lib.hid h3
  have HPE : Hid (∀ v' (w' : World), OwnB w' w.heap.size v' (bytesS ms) → Below w.heap.size w w' → ∃ v'', Ending.returned v' = .returned v'' ∧ OwnB w' w.heap.size v'' (bytesS ms) ∧ Below w.heap.size w w') :=
    Lib.hid fun v w' h1 h2 => ⟨v, rfl, h1, h2⟩
  clear h3 hok
  obtain ⟨len, hlen⟩ : ∃ len, ms.length = len := ⟨_, rfl⟩
  have HL := Lib.hid hlen
  rw [hlen] at h1 h2 hl5 ⊢
  clear hlen
  go_enter Tryz.func41, Tryz.ntmps41
  go_wp2_with fail
  go_loopw [3, 4] (fun v i wr => ∃ k : Nat, k ≤ len ∧ i = .int .i64 k ∧ Hid (Below w.heap.size w wr) ∧ Hid (OwnB wr w.heap.size v (bytesS (ms.take k)))) (fun _ i _ => len - (intOf i).toNat)
  case atStart => exact ⟨0, Nat.zero_le _, rfl, Lib.hid (Below.refl _ _), Lib.hid (OwnB.nil _ _)⟩
  case round =>
    obtain ⟨k, hk, rfl, HB, HO⟩ := hrel
    by_cases hlt : k < len
    · obtain ⟨b, off, hA, hbw, hcell⟩ := HC.out (by rw [HL.out]; omega)
      subst hA
      obtain ⟨⟨op, dst, a, b', n⟩, hm⟩ : ∃ m, ms[k]? = some m := ⟨ms[k]'(by rw [HL.out]; exact hlt), List.getElem?_eq_getElem _⟩
      obtain ⟨c0, c1, c2, c3, c4⟩ := (hcell k _ hm).below HB.out hbw
      have Hm := Lib.hid hm
      have Hw := Lib.hid (HW.out _ (List.mem_of_getElem? hm))
      have HQ : Hid ((bytesS (ms.take k)).length ≤ 1000000) := Lib.hid (by
        have := bytesS_len (ms.take k) fun m hm' => (HW.out m (List.mem_of_mem_take hm')).n
        rw [List.length_take] at this
        omega)
      have hz := HB.out.size
      clear hm hcell
      go_wp2_with fail
      refine (MacBytes_any op dst a b' n _ Hw.out.op Hw.out.regs Hw.out.n).mono ?_
      rintro e w2 ⟨v2, rfl, ho2, hb2⟩
      obtain ⟨g2, cap2, hv2, hg2⟩ := own_some ho2 (by unfold codeS; simp)
      have hcells := World.ownsRow.cells ho2 (by rw [hv2]; rfl : v2.ownBlock = some g2)
      subst hv2
      have HCe := Lib.hid hcells
      have HO2 := Lib.hid (HO.out.below hb2 rfl)
      have HB2 := Lib.hid (HB.out.trans (hb2.mono hz))
      have hl14 := codeS_len _ Hw.out.n
      have hz2 : w.heap.size ≤ w2.heap.size := HB2.out.size
      clear ho2 hb2 c0 c1 c2 c3 c4 hcells
      go_wp2_with (at_builtin; refine app_src rfl _ _ 72 5 rfl (.int .u8 0) 1 1 Tryz.underlying72 infoByte rfl (by decide) (by decide) w.heap.size u3 _ _ rfl HO2.out _ _ _ ((codeS ⟨op, dst, a, b', n⟩).map (Value.int .u8)) rfl (by simp) (fun _ => ⟨_, rfl, HCe.out⟩) (fun x hx => by obtain ⟨y, _, rfl⟩ := List.mem_map.1 hx; rfl) (by have := HQ.out; omega) hz2 _ rfl ?_; intro v3 w3 HA3)
      go_roundw
      case rel =>
        refine ⟨k + 1, by omega, by go_num, Lib.hid (HB2.out.trans HA3.out.below), Lib.hid ?_⟩
        rw [bytesS_snoc ms k _ Hm.out]
        unfold OwnB
        rw [List.length_append, List.map_append]
        exact HA3.out.own
      case measure => simp [intOf]; omega
    · go_wp2_with fail
      go_ret
      refine HPE.out _ _ ?_ HB.out
      have := HO.out
      rwa [List.take_of_length_le (by rw [HL.out]; omega)] at this
end Go.Proofs.YtdldochhondifaaGreatDoor
namespace Go.Proofs.YtdldochhondifaaGreatDoor
open Go.RowKit

/-- Instructions ahead of what else is read. -/
def preE (ms : List Mac) : Except Nat (List Mac) → Except Nat (List Mac)
  | .error e => .error e
  | .ok r => .ok (ms ++ r)
theorem preE_nil (r : Except Nat (List Mac)) : preE [] r = r := by cases r <;> rfl
theorem preE_pre (a b : List Mac) (r : Except Nat (List Mac)) : preE a (preE b r) = preE (a ++ b) r := by
  cases r with
  | error e => rfl
  | ok l => simp [preE]
/-- A list read: the instructions; or how many bytes are left where none stands. -/
def decS : Nat → List Int → Except Nat (List Mac)
  | 0, l => if l = [] then .ok [] else .error l.length
  | k + 1, l => if l = [] then .ok [] else match readS l with
    | none => .error l.length
    | some (m, l') => preE [m] (decS k l')
theorem decS_nil (k : Nat) : decS k [] = .ok [] := by cases k <;> rfl
theorem decS_none (k : Nat) (l : List Int) (h : l ≠ []) (hr : readS l = none) : decS k l = .error l.length := by
  cases k with
  | zero => unfold decS; rw [if_neg h]
  | succ k => unfold decS; rw [if_neg h, hr]
theorem decS_some (k : Nat) (l : List Int) (m : Mac) (l' : List Int) (h : l ≠ []) (hr : readS l = some (m, l')) : decS (k + 1) l = preE [m] (decS k l') := by
  rw [decS, if_neg h, hr]
theorem codeS_pos (m : Mac) : 0 < (codeS m).length := by unfold codeS; simp
/-- What reading a whole text comes to: the fault, the instructions. -/
def readL (bs : List Int) : (Int × Int) × List Mac :=
  if 70000 < bs.length then ((2, 0), []) else match decS bs.length bs with
  | .error k => ((1, (bs.length : Int) - k), [])
  | .ok ms => if (checkS ms).1 = 0 then ((0, 0), ms) else (checkS ms, [])
theorem and127 (d : Int) (h : 0 ≤ d ∧ d < 256) : bits BinOp.and IntKind.i64 d 127 = d % 128 := by
  have key : ∀ a : Fin 256, bits BinOp.and IntKind.i64 (a.val : Int) 127 = (a.val : Int) % 128 := by decide +kernel
  have := key ⟨d.toNat, by omega⟩
  simp only [show ((d.toNat : Nat) : Int) = d from by omega] at this
  exact this
/-- One more digit above those that are there. -/
theorem or_digit (acc d i : Nat) (ha : acc < 128 ^ i) (h64 : acc + d * 128 ^ i < 18446744073709551616) :
    bits BinOp.or IntKind.u64 (acc : Int) ((d * 128 ^ i : Nat) : Int) = ((acc + d * 128 ^ i : Nat) : Int) := by
  have e : (128 : Nat) ^ i = 2 ^ (7 * i) := by rw [Nat.pow_mul]
  rw [u64_or_nat _ _ (by omega) (by omega)]
  congr 1
  rw [e] at ha ⊢
  rw [Nat.or_comm, Nat.mul_comm, ← Nat.two_pow_add_eq_or_of_lt ha, Nat.add_comm]
end Go.Proofs.YtdldochhondifaaGreatDoor
