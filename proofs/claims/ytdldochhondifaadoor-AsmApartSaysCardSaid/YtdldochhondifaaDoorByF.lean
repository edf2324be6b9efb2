/-
  Several texts in one (ByE ByF): what each proves stands at its theorems.
  Conditions: as the theorems say.
-/
import Derived.Test.YtdldochhondifaaDoorByC
import Derived.Test.YtdldochhondifaaDoorKitD
import Derived.Deep.QuietTactic
import Derived.BigQuiet
namespace Go.Proofs.YtdldochhondifaaDoor
open Go.RowKit

theorem infoPtr : (Tryd.prog.info? 105).map (fun i => (i.zero, i.size, i.bytes)) = some (some (.pointer none), 1, 8) := by kernel_rfl
/-- The places of the registers that a shape has. -/
def regP (d a b : Bool) (g : Nat) (k : Nat) : List Value :=
  (if d && decide (0 < k) then [.pointer (some ⟨g, 1, none⟩)] else []) ++ (if a && decide (1 < k) then [.pointer (some ⟨g, 2, none⟩)] else []) ++ (if b && decide (2 < k) then [.pointer (some ⟨g, 3, none⟩)] else [])
theorem regP_len (d a b : Bool) (g k : Nat) : (regP d a b g k).length ≤ 3 := by unfold regP; split <;> split <;> split <;> simp
theorem regP_zero (d a b : Bool) (g : Nat) : regP d a b g 0 = [] := by unfold regP; simp
theorem regP_one (d a b : Bool) (g : Nat) : regP d a b g 1 = if d then [.pointer (some ⟨g, 1, none⟩)] else [] := by unfold regP; cases d <;> simp
theorem regP_two (d a b : Bool) (g : Nat) : regP d a b g 2 = regP d a b g 1 ++ if a then [.pointer (some ⟨g, 2, none⟩)] else [] := by unfold regP; cases d <;> cases a <;> simp
theorem regP_three (d a b : Bool) (g : Nat) : regP d a b g 3 = regP d a b g 2 ++ if b then [.pointer (some ⟨g, 3, none⟩)] else [] := by unfold regP; cases d <;> cases a <;> cases b <;> simp
def OwnP (w : World) (base : Nat) (v : Value) (xs : List Value) : Prop := w.ownsRow base 105 1 v xs.length xs

set_option maxRecDepth 100000 in
set_option maxHeartbeats 1000000 in
theorem registers_any (d a b : Bool) (k : Int) (g : Nat) (w : World) :
    Calls Tryd.prog 59 #[.agg #[.bool d, .bool a, .bool b, .int .i64 k], .pointer (some ⟨g, 0, none⟩)] w fun e w' => ∃ v, e = .returned v ∧ OwnP w' w.heap.size v (regP d a b g 3) ∧ Below w.heap.size w w' := by
  obtain ⟨i0, hi, hz0, hz1, hz2⟩ := info_parts infoPtr
  have x0 : ∀ w, (Instr.index 121 (.agg #[.bool d, .pointer (some ⟨g, 1, none⟩), .bool a, .pointer (some ⟨g, 2, none⟩), .bool b, .pointer (some ⟨g, 3, none⟩)]) (.int .i64 0)).run Tryd.prog w = .ok (.agg #[.bool d, .pointer (some ⟨g, 1, none⟩)]) w := fun _ => by kernel_rfl
  have x1 : ∀ w, (Instr.index 121 (.agg #[.bool d, .pointer (some ⟨g, 1, none⟩), .bool a, .pointer (some ⟨g, 2, none⟩), .bool b, .pointer (some ⟨g, 3, none⟩)]) (.int .i64 1)).run Tryd.prog w = .ok (.agg #[.bool a, .pointer (some ⟨g, 2, none⟩)]) w := fun _ => by kernel_rfl
  have x2 : ∀ w, (Instr.index 121 (.agg #[.bool d, .pointer (some ⟨g, 1, none⟩), .bool a, .pointer (some ⟨g, 2, none⟩), .bool b, .pointer (some ⟨g, 3, none⟩)]) (.int .i64 2)).run Tryd.prog w = .ok (.agg #[.bool b, .pointer (some ⟨g, 3, none⟩)]) w := fun _ => by kernel_rfl
  have HP : Hid (∀ v (w' : World), OwnP w' w.heap.size v (regP d a b g 3) → Below w.heap.size w w' → ∃ v', Ending.returned v = .returned v' ∧ OwnP w' w.heap.size v' (regP d a b g 3) ∧ Below w.heap.size w w') :=
    Lib.hid fun v w' h1 h2 => ⟨v, rfl, h1, h2⟩
  go_enter Tryd.func59, Tryd.ntmps59
  go_wp2_with fail
  go_quiet (fail)
  go_wp2_with fail
  have hb0 : Below w.heap.size w ((w.alloc (.cells #[.bool d, .bool a, .bool b, .int .i64 k] 61)).drewN nq) := below_drewN ((Below.refl _ _).alloc (Nat.le_refl _) _) _
  generalize (w.alloc (.cells #[.bool d, .bool a, .bool b, .int .i64 k] 61)).drewN nq = W at *
  have HB0 := Lib.hid hb0
  clear hb0
  go_loopw [5, 27] (fun v i wr => ∃ k : Nat, k ≤ 3 ∧ i = .int .i64 k ∧ Hid (Below w.heap.size w wr) ∧ Hid (OwnP wr w.heap.size v (regP d a b g k))) (fun _ i _ => 3 - (intOf i).toNat)
  case atStart => exact ⟨0, by omega, rfl, HB0, Lib.hid (by rw [regP_zero]; exact World.ownsRow_nil _ _ _ _)⟩
  case round =>
    obtain ⟨k, hk, rfl, HB, HO⟩ := hrel
    have hlen := regP_len d a b g k
    have hsz := HB.out.size
    rcases (by omega : k = 0 ∨ k = 1 ∨ k = 2 ∨ k = 3) with rfl | rfl | rfl | rfl
    case inr.inr.inr =>
      go_wp2_with fail
      go_ret
      exact HP.out _ _ HO.out HB.out
    case inl =>
      cases d
      · go_wp2_with fail
        go_roundw
        case rel => exact ⟨1, by omega, by go_num, Lib.hid (HB.out.alloc hsz _), Lib.hid (by rw [regP_one]; simp only [Bool.false_eq_true, if_false]; rw [regP_zero] at HO; exact HO.out.alloc _)⟩
        case measure => simp [intOf]
      · go_wp2_with (at_builtin; refine app_one rfl _ _ 102 105 rfl (.pointer none) 1 8 Tryd.underlying102 infoPtr rfl (by decide) (by decide) w.heap.size _ _ _ rfl (HO.out.alloc _) _ [.pointer (some ⟨g, 1, none⟩)] rfl rfl (fun x hx => by simp at hx; subst hx; rfl) (by simp) (by omega) (by simp; omega) ?_; intro v' w3 HA')
        go_roundw
        case rel =>
          refine ⟨1, by omega, by go_num, Lib.hid ((HB.out.alloc hsz _).trans HA'.out.below), Lib.hid ?_⟩
          have h := HA'.out.own
          unfold OwnP
          rw [regP_one]
          rw [regP_zero] at h
          exact h
        case measure => simp [intOf]
    case inr.inl =>
      cases a
      · go_wp2_with fail
        go_roundw
        case rel => exact ⟨2, by omega, by go_num, Lib.hid (HB.out.alloc hsz _), Lib.hid (by rw [regP_two]; simp only [Bool.false_eq_true, if_false, List.append_nil]; exact HO.out.alloc _)⟩
        case measure => simp [intOf]
      · go_wp2_with (at_builtin; refine app_one rfl _ _ 102 105 rfl (.pointer none) 1 8 Tryd.underlying102 infoPtr rfl (by decide) (by decide) w.heap.size _ _ _ rfl (HO.out.alloc _) _ [.pointer (some ⟨g, 2, none⟩)] rfl rfl (fun x hx => by simp at hx; subst hx; rfl) (by simp) (by omega) (by simp; omega) ?_; intro v' w3 HA')
        go_roundw
        case rel =>
          refine ⟨2, by omega, by go_num, Lib.hid ((HB.out.alloc hsz _).trans HA'.out.below), Lib.hid ?_⟩
          have h := HA'.out.own
          unfold OwnP
          rw [regP_two]
          rw [List.length_append]
          exact h
        case measure => simp [intOf]
    case inr.inr.inl =>
      cases b
      · go_wp2_with fail
        go_roundw
        case rel => exact ⟨3, by omega, by go_num, Lib.hid (HB.out.alloc hsz _), Lib.hid (by rw [regP_three]; simp only [Bool.false_eq_true, if_false, List.append_nil]; exact HO.out.alloc _)⟩
        case measure => simp [intOf]
      · go_wp2_with (at_builtin; refine app_one rfl _ _ 102 105 rfl (.pointer none) 1 8 Tryd.underlying102 infoPtr rfl (by decide) (by decide) w.heap.size _ _ _ rfl (HO.out.alloc _) _ [.pointer (some ⟨g, 3, none⟩)] rfl rfl (fun x hx => by simp at hx; subst hx; rfl) (by simp) (by omega) (by simp; omega) ?_; intro v' w3 HA')
        go_roundw
        case rel =>
          refine ⟨3, by omega, by go_num, Lib.hid ((HB.out.alloc hsz _).trans HA'.out.below), Lib.hid ?_⟩
          have h := HA'.out.own
          unfold OwnP
          rw [regP_three]
          rw [List.length_append]
          exact h
        case measure => simp [intOf]
end Go.Proofs.YtdldochhondifaaDoor
namespace Go.Proofs.YtdldochhondifaaDoor
open Go.RowKit

/-- The slice's address, of so many pointers to numbers, reads as ps. -/
def PtrsAt (w : World) (A : Option Addr) (L : Nat) (ps : List Value) : Prop :=
  ps.length = L ∧ (0 < L → ∃ b off cs, A = some ⟨b, off, none⟩ ∧ Blk w b 105 cs ∧ ∀ (k : Nat) (p : Value), ps[k]? = some p → cs[off + k]? = some p)
theorem PtrsAt.kept {w w' : World} {A : Option Addr} {L : Nat} {ps : List Value} (h : PtrsAt w A L ps) (hk : ∀ b cs, Blk w b 105 cs → Blk w' b 105 cs) : PtrsAt w' A L ps :=
  ⟨h.1, fun hl => by
    obtain ⟨b, off, cs, e, hb, hc⟩ := h.2 hl
    exact ⟨b, off, cs, e, hk b cs hb, hc⟩⟩
theorem OwnP.ptrs {w : World} {base : Nat} {v : Value} {xs : List Value} (h : OwnP w base v xs) : ∃ A c, v = .slice A xs.length c ∧ xs.length ≤ c ∧ PtrsAt w A xs.length xs := by
  rcases h.2 with ⟨rfl, hn⟩ | ⟨g, cap, cur, rfl, _, hgg, hnc, _, _, hx⟩
  · exact ⟨none, 0, by rw [hn], by omega, rfl, fun h => by omega⟩
  · refine ⟨some ⟨g, 0, none⟩, cap, rfl, hnc, rfl, fun _ => ⟨g, 0, cur, rfl, hgg, fun k p hk => ?_⟩⟩
    have hc := World.ownsRow.cells h (g := g) rfl k p hk
    have e : (⟨g, 0, none⟩ : Addr).add k = ⟨g, k, none⟩ := by
      unfold Addr.add
      split <;> simp_all
    rw [e, cell_of_row w g k cur 105 (0, 0) hgg] at hc
    rw [Nat.zero_add]
    exact hc
/-- The pointers lead to those numbers, in the block g of the cells cs. -/
def LeadTo (cs : Array Value) (g : Nat) (ps : List Value) (rs : List Int) : Prop :=
  ps.length = rs.length ∧ ∀ (k : Nat) (x : Int), rs[k]? = some x → ∃ o, ps[k]? = some (.pointer (some ⟨g, o, none⟩)) ∧ cs[o]? = some (.int .i64 x)
theorem lead_regs (op dst a b n : Int) (g : Nat) : LeadTo #[.int .i64 op, .int .i64 dst, .int .i64 a, .int .i64 b, .int .i64 n] g (regP (shD op) (shA op) (shB op) g 3) (regsS ⟨op, dst, a, b, n⟩) := by
  unfold LeadTo regP regsS
  simp only
  cases shD op <;> cases shA op <;> cases shB op <;> simp only [Bool.false_and, Bool.true_and, if_true, if_false, Bool.false_eq_true, decide_true, show (0 < 3) = True by simp, show (1 < 3) = True by simp, show (2 < 3) = True by simp, List.nil_append, List.append_nil, List.cons_append] <;>
    refine ⟨rfl, fun k x hk => ?_⟩ <;>
    (match k, hk with
      | 0, hk => first | (simp at hk; done) | (simp at hk; subst hk; exact ⟨_, rfl, rfl⟩)
      | 1, hk => first | (simp at hk; done) | (simp at hk; subst hk; exact ⟨_, rfl, rfl⟩)
      | 2, hk => first | (simp at hk; done) | (simp at hk; subst hk; exact ⟨_, rfl, rfl⟩)
      | _ + 3, hk => simp at hk)

/-- A slice's length. -/
def lenOf : Value → Nat
  | .slice _ n _ => n
  | _ => 0
/-- The loop that packs the registers: pre are packed, rs' are left. -/
def codeRel (W : World) (base : Nat) (gm gs : Nat) (cm cs : Array Value) (rs : List Int) (xs : List Int) (op : Int) (v l : Value) (wr : World) : Prop :=
  ∃ (A : Option Addr) (L c : Nat) (ps' : List Value) (rs' pre : List Int), l = .slice A L c ∧ L ≤ c ∧ L ≤ 3 ∧ Hid (PtrsAt wr A L ps') ∧ Hid (LeadTo cm gm ps' rs') ∧ Hid (packS rs = pre ++ packS rs') ∧ pre.length + rs'.length ≤ 3 ∧
    Hid (∀ x ∈ rs', 0 ≤ x ∧ x < 16) ∧ Hid (Below base W wr) ∧ Hid (OwnB wr base v (xs ++ (op :: pre))) ∧ Hid (Blk wr gm 57 cm) ∧ Hid (Blk wr gs 61 cs)
theorem LeadTo.uncons {cs : Array Value} {g : Nat} {ps : List Value} {x : Int} {rs : List Int} (h : LeadTo cs g ps (x :: rs)) : ∃ o ps', ps = .pointer (some ⟨g, o, none⟩) :: ps' ∧ cs[o]? = some (.int .i64 x) ∧ LeadTo cs g ps' rs := by
  obtain ⟨hl, hc⟩ := h
  obtain ⟨o, h0, h1⟩ := hc 0 x rfl
  match ps, hl with
  | p :: ps', hl =>
    simp only [List.getElem?_cons_zero, Option.some.injEq] at h0
    subst h0
    exact ⟨o, ps', rfl, h1, by simpa using hl, fun k y hk => by
      obtain ⟨o', h2, h3⟩ := hc (k + 1) y (by simpa using hk)
      exact ⟨o', by simpa using h2, h3⟩⟩
theorem PtrsAt.first {w : World} {A : Option Addr} {L : Nat} {p : Value} {ps : List Value} (h : PtrsAt w A L (p :: ps)) : ∃ b off cs, A = some ⟨b, off, none⟩ ∧ Blk w b 105 cs ∧ w.cell? ⟨b, off, none⟩ = some p ∧ ∀ q ps', ps = q :: ps' → w.cell? ⟨b, off + 1, none⟩ = some q := by
  obtain ⟨hl, hc⟩ := h
  simp only [List.length_cons] at hl
  obtain ⟨b, off, cs, e, hb, hcs⟩ := hc (by omega)
  exact ⟨b, off, cs, e, hb, by rw [hb.cell]; exact hcs 0 p rfl, fun q ps' hq => by subst hq; rw [hb.cell]; exact hcs 1 q rfl⟩
theorem PtrsAt.drop2 {w : World} {A : Option Addr} {L c : Nat} {p q : Value} {ps : List Value} (h : PtrsAt w A L (p :: q :: ps)) (hc : L ≤ c) : PtrsAt w (if c = 2 then A else A.map (·.add 2)) (L - 2) ps := by
  obtain ⟨hl, hcc⟩ := h
  simp only [List.length_cons] at hl
  refine ⟨by omega, fun hpos => ?_⟩
  obtain ⟨b, off, cs, rfl, hb, hcs⟩ := hcc (by omega)
  rw [if_neg (by omega)]
  refine ⟨b, off + 2, cs, by simp [Addr.add], hb, fun k r hk => ?_⟩
  have := hcs (k + 2) r (by simpa using hk)
  rw [← this]
  congr 1
  omega

theorem pack_bits (x y : Int) (hx : 0 ≤ x ∧ x < 16) (hy : 0 ≤ y ∧ y < 16) : IntKind.u8.wrap (bits BinOp.or IntKind.i64 (x * 16) y) = 16 * x + y := by
  have key : ∀ a b : Fin 16, IntKind.u8.wrap (bits BinOp.or IntKind.i64 ((a.val : Int) * 16) (b.val : Int)) = 16 * (a.val : Int) + (b.val : Int) := by decide +kernel
  have := key ⟨x.toNat, by omega⟩ ⟨y.toNat, by omega⟩
  simp only [show ((x.toNat : Nat) : Int) = x from by omega, show ((y.toNat : Nat) : Int) = y from by omega] at this
  exact this

end Go.Proofs.YtdldochhondifaaDoor
