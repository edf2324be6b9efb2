/-
  core.Vals: the values that an instruction takes, one behind the other.
  Conditions: as the theorems say.
-/
import Derived.Test.YtiknhfbkphoceaaGreatDoorUnE
import Derived.Test.YtiknhfbkphoceaaGreatDoorUnV
import Derived.RangeFuncCalls
import Derived.Shelf.Abstract
import Derived.Shelf.RegionOpen
import Derived.TacticsInMore
import Derived.LoopNIn
import Derived.LoopIn
import Derived.OwnWalkIn
import Derived.Sort.CutIn
namespace Go.Proofs.YtiknhfbkphoceaaGreatDoor
open Go.RowKit
attribute [local go_sem] Oper.semAt_some

def insC (op dst : Int) (ar : Bool) (an : Int) (br : Bool) (bn fn : Int) (xA : Option Addr) (xl xc : Nat) : Array Value := #[.int .i64 op, .int .i64 dst, .bool ar, .int .i64 an, .bool br, .int .i64 bn, .int .i64 fn, .slice xA xl xc]
theorem Vals_any (op dst : Int) (ar br : Bool) (an bn fn : Int) (xA : Option Addr) (xl xc : Nat) (w : World) :
    Calls Tryz.prog 34 #[.agg #[.int .i64 op, .int .i64 dst, .bool ar, .int .i64 an, .bool br, .int .i64 bn, .int .i64 fn, .slice xA xl xc]] w fun e w' => e = .returned (.func (.func 54) #[] #[.pointer (some ⟨w.heap.size, 0, none⟩)]) ∧ w' = w.alloc (.cells #[.int .i64 op, .int .i64 dst, .bool ar, .int .i64 an, .bool br, .int .i64 bn, .int .i64 fn, .slice xA xl xc] 69) := by
  go_enter Tryz.func34, Tryz.ntmps34
  go_wp2_with fail
  go_ret
  exact ⟨rfl, rfl⟩
theorem abides_below {β : Type} {B : Nat} {J : β → World → Prop} (h : AbidesFrom B J) {s : β} {W W' : World} (hs : J s W) (hb : Below W.heap.size W W') : J s W' :=
  h s W W' none hs ⟨hb.os, hb.tape, hb.output, hb.size, fun k hk _ => hb.block k hk⟩ (fun r e => by cases e)
theorem opd_at {w : World} {B : Nat} {A : Option Addr} {l c : Nat} {os : List Opd} (h : OpdsAt w B (.slice A l c) os) {k : Nat} {v : Opd} (hk : os[k]? = some v) :
    ∃ b off, A = some ⟨b, off, none⟩ ∧ b < B ∧ w.cell? ⟨b, off + k * 2, none⟩ = some (.bool v.reg) ∧ w.cell? ⟨b, off + k * 2 + 1, none⟩ = some (.int .i64 v.n) := by
  obtain ⟨b, off, e, hb, us, hus, hc⟩ := SlAt.at h hk
  unfold OpdP at hus
  subst hus
  exact ⟨b, off, e, hb, by have := hc 0 _ rfl; simpa using this, hc 1 _ rfl⟩
theorem hasB_A {op : Int} (h : hasB op = true) : hasA op = true := by
  unfold hasB at h
  unfold hasA
  rw [decide_eq_true_eq] at h ⊢
  omega
def valsH (x : InsU) : List Opd := (if hasA x.op = true then [x.a] else []) ++ (if hasB x.op = true then [x.b] else [])
theorem vals_eq (x : InsU) : valsU x = valsH x ++ x.args := rfl
set_option maxRecDepth 100000 in
set_option maxHeartbeats 2000000 in
/-- The closure of Vals, for a body that keeps all but block g. -/
theorem vals1_in (n : Nat) (hn : 1 ≤ n) (l Bn g n₀ : Nat) (x : InsU) (hop : 1 ≤ x.op ∧ x.op ≤ 22) (xA : Option Addr) (xl xc : Nat) (J Jx : List Opd → World → Prop) (W : World) (hBg : Bn ≠ g) (hng : n₀ ≤ g) (hgW : g < W.heap.size)
    (hX : Blk W Bn 69 #[.int .i64 x.op, .int .i64 x.dst, .bool x.a.reg, .int .i64 x.a.n, .bool x.b.reg, .int .i64 x.b.n, .int .i64 x.fn, .slice xA xl xc]) (hA : OpdsAt W n₀ (.slice xA xl xc) x.args)
    (hJ : AbidesFrom W.heap.size J)
    (hY : ∀ pre v W1, v ∈ valsU x → J pre W1 → pre.length < (valsU x).length → YieldAt Fence.wide (n - 1) Tryz.prog l #[.agg #[.bool v.reg, .int .i64 v.n]] W1 fun e W' =>
      (e = .returned (.bool true) ∧ J (pre ++ [v]) W' ∧ CellsBut g W1 W') ∨ (e = .returned (.bool false) ∧ Jx (pre ++ [v]) W')) (h0 : J [] W) :
    CallsIn Fence.wide n Tryz.prog 54 #[.func (.yield l) #[] #[], .pointer (some ⟨Bn, 0, none⟩)] W fun e W' => (∃ v, e = .returned v) ∧
      ((∃ ys, ys = valsU x ∧ J ys W') ∨ (∃ pre, True ∧ Jx pre W')) := by
  have HJ := Lib.hid hJ
  have HY := Lib.hid hY
  have HX := Lib.hid hX
  have HA := Lib.hid hA
  have Hop := Lib.hid hop
  have x0 := hX.cell 0
  have hBl := hX.lt
  clear hJ hY hX hA hop
  refine callsIn_of_wp Tryz.func54 rfl trivial ?_ rfl
  simp only [Tryz.ntmps54, List.size_toArray, List.length_cons, List.length_nil, Nat.reduceAdd, Nat.reduceSub, Array.replicate_succ, Array.replicate_zero, List.push_toArray, List.append_toArray, List.nil_append, List.cons_append]
  gi_wp2_with fail
  refine ⟨trivial, (callsIn_wide.2 (Shapes_any x.op _ Hop.out)).mono ?_⟩
  rintro e w1 ⟨rfl, hb1⟩
  unfold shapeV
  have hw1 : W.heap.size ≤ w1.heap.size := hb1.size
  have HB2 : Hid (Below W.heap.size W (w1.alloc (.cells #[.bool (hasD x.op), .bool (hasA x.op), .bool (hasB x.op)] 101))) := Lib.hid (hb1.alloc hb1.size _)
  have HS2 : Hid (Blk (w1.alloc (.cells #[.bool (hasD x.op), .bool (hasA x.op), .bool (hasB x.op)] 101)) w1.heap.size 101 #[.bool (hasD x.op), .bool (hasA x.op), .bool (hasB x.op)]) := Lib.hid (Blk.new _ _ _)
  gi_upto_region 1 with fail
  generalize w1.alloc (.cells #[.bool (hasD x.op), .bool (hasA x.op), .bool (hasB x.op)] 101) = W2 at *
  generalize hz : w1.heap.size = z at *
  clear hz hb1
  have hzg : z ≠ g := by omega
  have hJ2 : J [] W2 := abides_below HJ.out h0 HB2.out
  have HC2 : Hid (CellsBut g W W2) := Lib.hid (Below.cellsBut HB2.out)
  have HX2 := Lib.hid (HC2.out.blk HX.out hBg)
  have s1 := HS2.out.cell 1
  have s2 := HS2.out.cell 2
  gi_cut [28] from 8 (fun s wx => (s = .bool false ∧ Hid (J (valsH x) wx) ∧ Hid (CellsBut g W wx)) ∨ (s = .bool true ∧ Hid (∃ pre, Jx pre wx)))
  case first =>
    cases hA1 : hasA x.op with
    | false =>
      have hB1 : hasB x.op = false := by
        cases hB1 : hasB x.op with
        | false => rfl
        | true => rw [hasB_A hB1] at hA1; cases hA1
      have HP : Hid (J (valsH x) W2) := Lib.hid (by unfold valsH; rw [hA1, hB1]; exact hJ2)
      rw [hA1] at s1
      rw [hB1] at s2
      clear hJ2
      gi_wp2_with fail
      refine ⟨fun _ h => (by cases h), ?_⟩
      gi_wp2_with fail
      gi_meet
      exact .inl ⟨rfl, HP, HC2⟩
    | true =>
      rw [hA1] at s1
      have x2 := HX2.out.cell 2
      have x3 := HX2.out.cell 3
      have hv : valsH x = x.a :: (if hasB x.op = true then [x.b] else []) := by unfold valsH; rw [if_pos hA1]; rfl
      obtain ⟨fn, tmps, assign, body, hy, hR⟩ := HY.out [] x.a W2 (by rw [vals_eq, hv]; simp) hJ2 (by rw [vals_eq, hv]; simp)
      have Hv := Lib.hid hv
      clear hJ2 hv
      gi_wp2_with fail
      refine hR.mono ?_
      rintro e W3 (⟨rfl, hJ3, hk3⟩ | ⟨rfl, hJx3⟩)
      · have HC3 := Lib.hid (HC2.out.trans hk3)
        have s2 := (hk3.blk HS2.out hzg).cell 2
        have x4 := (HC3.out.blk HX.out hBg).cell 4
        have x5 := (HC3.out.blk HX.out hBg).cell 5
        have HJ3 := Lib.hid hJ3
        clear hJ3 hk3 hy hR
        cases hB1 : hasB x.op with
        | false =>
          rw [hB1] at s2
          have HP : Hid (J (valsH x) W3) := Lib.hid (by rw [Hv.out, hB1]; exact HJ3.out)
          gi_wp2_with fail
          refine ⟨fun _ h => (by cases h), ?_⟩
          gi_wp2_with fail
          gi_meet
          exact .inl ⟨rfl, HP, HC3⟩
        | true =>
          rw [hB1] at s2
          obtain ⟨fn, tmps, assign, body, hy, hR⟩ := HY.out [x.a] x.b W3 (by rw [vals_eq, Hv.out, hB1]; simp) HJ3.out (by rw [vals_eq, Hv.out, hB1]; simp)
          gi_wp2_with fail
          refine hR.mono ?_
          rintro e W4 (⟨rfl, hJ4, hk4⟩ | ⟨rfl, hJx4⟩)
          · have HC4 := Lib.hid (HC3.out.trans hk4)
            have HP : Hid (J (valsH x) W4) := Lib.hid (by rw [Hv.out, hB1]; exact hJ4)
            clear hJ4 hk4 hy hR
            gi_wp2_with fail
            gi_meet
            exact .inl ⟨rfl, HP, HC4⟩
          · have HP : Hid (∃ pre, Jx pre W4) := Lib.hid ⟨_, hJx4⟩
            clear hJx4 hy hR
            gi_wp2_with fail
            gi_meet
            exact .inr ⟨rfl, HP⟩
      · have HP : Hid (∃ pre, Jx pre W3) := Lib.hid ⟨_, hJx3⟩
        clear hJx3 hy hR
        have hund : ∀ b : Bool, ¬ (undef = Value.bool b) := fun b h => by cases h
        gi_wp2_with fail
        refine ⟨fun _ h => (by cases h), ?_⟩
        gi_wp2_with fail
        gi_meet
        exact .inr ⟨rfl, HP⟩
  case rest =>
    clear s1 s2 hJ2 HC2 HX2 HS2 HB2
    rcases hcut with ⟨rfl, HP, HC⟩ | ⟨rfl, HP⟩
    · have x7 := (HC.out.blk HX.out hBg).cell 7
      have hl := SlAt.len HA.out
      have hl63 : xl ≤ 9223372036854775807 := by
        obtain ⟨A', c', e, h1, h2⟩ := SlAt.form HA.out
        omega
      have Hl := Lib.hid hl
      clear hl
      gi_wp2_with fail
      gi_loopw [32] (fun i wr => ∃ k : Nat, k ≤ xl ∧ i = .int .i64 k ∧ Hid (J (valsH x ++ x.args.take k) wr) ∧ Hid (CellsBut g W wr)) (fun i _ => xl - (intOf i).toNat)
      case atStart => exact ⟨0, Nat.zero_le _, rfl, Lib.hid (by rw [List.take_zero, List.append_nil]; exact HP.out), HC⟩
      case round =>
        obtain ⟨k, hk, rfl, HJk, HCk⟩ := hrel
        clear x7 HP HC
        by_cases hlt : k < xl
        · have hk0 : (0 : Int) ≤ (k : Int) := Int.natCast_nonneg k
          have hk1 : (k : Int) < (xl : Int) := by omega
          obtain ⟨v, hv⟩ : ∃ v, x.args[k]? = some v := ⟨x.args[k]'(by rw [Hl.out]; exact hlt), List.getElem?_eq_getElem _⟩
          obtain ⟨ab, ao, rfl, hab, c0, c1⟩ := opd_at HA.out hv
          have v0 := HCk.out.cell c0 (by omega)
          have v1 := HCk.out.cell c1 (by omega)
          have hbl : ab < wr.heap.size := block_lt_of_cell v0
          have HJ2 : J (valsH x ++ x.args.take k) (wr.alloc (.cells #[.bool v.reg, .int .i64 v.n] 66)) := abides_below HJ.out HJk.out ((Below.refl _ _).alloc (Nat.le_refl _) _)
          obtain ⟨fn, tmps, assign, body, hy, hR⟩ := HY.out _ v _ (by rw [vals_eq]; exact List.mem_append_right _ (List.mem_of_getElem? hv)) HJ2 (by rw [vals_eq, List.length_append, List.length_append, List.length_take, Hl.out]; omega)
          have Hv := Lib.hid hv
          have HCa : Hid (CellsBut g W (wr.alloc (.cells #[.bool v.reg, .int .i64 v.n] 66))) := Lib.hid (HCk.out.trans (Below.cellsBut ((Below.refl _ _).alloc (Nat.le_refl _) _)))
          clear HJ2 c0 c1 hv
          gi_wp2_with fail
          refine hR.mono ?_
          rintro e W3 (⟨rfl, hJ3, hk3⟩ | ⟨rfl, hJx3⟩)
          · have HJ3 : Hid (J (valsH x ++ x.args.take (k + 1)) W3) := Lib.hid (by
              have := (List.getElem?_eq_some_iff.1 Hv.out)
              obtain ⟨h1, h2⟩ := this
              rw [List.take_succ_eq_append_getElem h1, h2, ← List.append_assoc]
              exact hJ3)
            have HC3 := Lib.hid (HCa.out.trans hk3)
            clear hJ3 hk3 hy hR
            gi_wp2_with fail
            go_roundw
            case rel => exact ⟨k + 1, by omega, by go_num, HJ3, HC3⟩
            case measure => simp [intOf]; omega
          · have HP : Hid (∃ pre, Jx pre W3) := Lib.hid ⟨_, hJx3⟩
            clear hJx3 hy hR
            gi_wp2_with fail
            refine bodyPost_ret (results_none rfl _ _ _) rfl ?_
            obtain ⟨pre, hp⟩ := HP.out
            exact ⟨⟨_, rfl⟩, .inr ⟨pre, trivial, hp⟩⟩
        · have HE : Hid (J (valsU x) wr) := Lib.hid (by
            have := HJk.out
            rw [List.take_of_length_le (by rw [Hl.out]; omega)] at this
            exact this)
          gi_wp2_with fail
          go_end0
          exact ⟨⟨_, rfl⟩, .inl ⟨_, rfl, HE.out⟩⟩
    · gi_wp2_with fail
      refine bodyPost_ret (results_none rfl _ _ _) rfl ?_
      obtain ⟨pre, hp⟩ := HP.out
      exact ⟨⟨_, rfl⟩, .inr ⟨pre, trivial, hp⟩⟩
end Go.Proofs.YtiknhfbkphoceaaGreatDoor
