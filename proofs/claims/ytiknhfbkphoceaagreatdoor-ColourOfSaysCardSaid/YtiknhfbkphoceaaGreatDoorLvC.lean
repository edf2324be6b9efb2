/-
  Several texts in one (LvA LvB LvC): what each proves stands at its theorems.
  Conditions: as the theorems say.
-/
import Derived.Test.YtiknhfbkphoceaaGreatDoorUnX
import Derived.Test.YtiknhfbkphoceaaGreatDoorUnZ
import Derived.Test.YtiknhfbkphoceaaGreatDoorUnF
import Derived.WalkSpells
import Derived.Deep.AppendLies
namespace Go.Proofs.YtiknhfbkphoceaaGreatDoor
open Go.RowKit
attribute [local go_sem] Oper.semAt_some

/-- Bools that a block holds, and what lies behind them. -/
def boolsT (tl : List Value) (bs : List Bool) : Array Value := (bs.map Value.bool ++ tl).toArray
theorem boolsT_at {tl : List Value} {bs : List Bool} {k : Nat} {x : Bool} (h : bs[k]? = some x) : (boolsT tl bs)[k]? = some (.bool x) := by
  have hk := (List.getElem?_eq_some_iff.1 h).1
  unfold boolsT
  rw [List.getElem?_toArray, List.getElem?_append_left (by simpa using hk), List.getElem?_map, h]
  rfl
theorem boolsT_set (tl : List Value) (bs : List Bool) (k : Nat) (x : Bool) (hk : k < bs.length) : (boolsT tl bs).setIfInBounds k (.bool x) = boolsT tl (bs.set k x) := by
  unfold boolsT
  rw [List.setIfInBounds_toArray, List.set_append_left _ _ (by simpa using hk), List.map_set]
theorem made_bools (n : Nat) : madeCells #[.bool false] n = boolsT [] (List.replicate n false) := by
  unfold boolsT
  apply Array.toList_inj.1
  simp [madeCells, Nat.mod_one, List.map_const']
/-- A set of registers below n. -/
def setOf (n : Nat) (S : Int → Bool) : List Bool := (List.range n).map fun (r : Nat) => S ((r : Nat) : Int)
theorem setOf_len (n : Nat) (S : Int → Bool) : (setOf n S).length = n := by simp [setOf]
theorem setOf_at {n : Nat} {S : Int → Bool} {r : Nat} (h : r < n) : (setOf n S)[r]? = some (S (r : Int)) := by
  unfold setOf
  rw [List.getElem?_map, List.getElem?_range h]
  rfl
theorem setOf_none (n : Nat) : setOf n (fun _ => false) = List.replicate n false := by unfold setOf; simp [List.map_const']
theorem setOf_put {n : Nat} {S T : Int → Bool} {r : Nat} {x : Bool} (h : ∀ q : Nat, q < n → T (q : Int) = if q = r then x else S (q : Int)) : (setOf n S).set r x = setOf n T := by
  apply List.ext_getElem?
  intro j
  rcases Nat.lt_or_ge j n with hj | hj
  · rw [List.getElem?_set, setOf_at hj, setOf_at hj, h j hj]
    by_cases e : r = j
    · subst e
      rw [if_pos rfl, if_pos rfl, setOf_len, if_pos hj]
    · rw [if_neg e, if_neg (fun e' => e e'.symm)]
  · rw [List.getElem?_eq_none (by rw [List.length_set, setOf_len]; exact hj), List.getElem?_eq_none (by rw [setOf_len]; exact hj)]
theorem setOf_congr {n : Nat} {S T : Int → Bool} (h : ∀ q : Nat, q < n → S (q : Int) = T (q : Int)) : setOf n S = setOf n T := by
  unfold setOf
  apply List.map_congr_left
  intro r hr
  exact h r (by simpa using hr)
theorem setOf_inj {n : Nat} {S T : Int → Bool} (h : setOf n S = setOf n T) (q : Nat) (hq : q < n) : S (q : Int) = T (q : Int) := by
  have h1 := setOf_at (S := S) hq
  rw [h, setOf_at hq] at h1
  exact (Option.some.inj h1).symm
/-- A set with more registers. -/
def orS (S : Int → Bool) (l : List Int) (r : Int) : Bool := S r || decide (r ∈ l)
theorem orS_nil (S : Int → Bool) : orS S [] = S := by funext r; simp [orS]
theorem orS_app (S : Int → Bool) (l m : List Int) : orS (orS S l) m = orS S (l ++ m) := by
  funext r
  unfold orS
  rw [Bool.eq_iff_iff]
  simp only [Bool.or_eq_true, decide_eq_true_eq, List.mem_append]
  constructor
  · rintro ((h | h) | h)
    · exact .inl h
    · exact .inr (.inl h)
    · exact .inr (.inr h)
  · rintro (h | h | h)
    · exact .inl (.inl h)
    · exact .inl (.inr h)
    · exact .inr h
set_option maxRecDepth 100000 in
set_option maxHeartbeats 1000000 in
theorem take_any (v : Opd) (g n c : Nat) (tl : List Value) (S : Int → Bool) (w : World) (hb : Blk w g 4 (boolsT tl (setOf n S))) (hv : v.reg = true → 0 ≤ v.n ∧ v.n < n) :
    Calls Tryz.prog 77 #[.slice (some ⟨g, 0, none⟩) n c, .agg #[.bool v.reg, .int .i64 v.n]] w fun e w' => e = .returned (.tuple #[]) ∧ BelowBut g w.heap.size w w' ∧ Blk w' g 4 (boolsT tl (setOf n (orS S (occV v)))) := by
  obtain ⟨r, m⟩ := v
  have hg := hb.lt
  have HO := Lib.hid hb
  cases r with
  | false =>
    have HE : Hid (orS S (occV ⟨false, m⟩) = S) := Lib.hid (by unfold occV; rw [if_neg (by simp)]; exact orS_nil S)
    clear hv hb
    go_enter Tryz.func77, Tryz.ntmps77
    go_wp2_with fail
    go_end0
    exact ⟨rfl, but_of ((Below.refl _ _).alloc (Nat.le_refl _) _), by rw [HE.out]; exact HO.out.alloc _⟩
  | true =>
    obtain ⟨h0, h1⟩ := hv rfl
    dsimp only at h0 h1
    obtain ⟨k, rfl⟩ : ∃ k : Nat, m = (k : Int) := ⟨m.toNat, by omega⟩
    have hk : k < n := by omega
    have hc := (hb.cell k).trans (boolsT_at (setOf_at hk (S := S)))
    have hfz := hb.frozen k
    have HE : Hid ((setOf n S).set k true = setOf n (orS S (occV ⟨true, (k : Int)⟩))) := Lib.hid (setOf_put fun q hq => by
      unfold orS occV
      rw [if_pos rfl]
      by_cases e : q = k
      · subst e; simp
      · rw [if_neg e]
        have : ¬ ((q : Nat) : Int) = (k : Int) := by omega
        simp [this])
    have hne : g ≠ w.heap.size := by omega
    generalize S (k : Int) = b0 at *
    clear hv hb
    go_enter Tryz.func77, Tryz.ntmps77
    go_wp2_with fail
    go_end0
    refine ⟨rfl, (BelowBut.set g _ _ _ _).alloc (by simp) _, ?_⟩
    have := (HO.out.set_ k (.bool true)).alloc (.cells #[.bool true, .int .i64 (k : Int)] 66)
    rw [boolsT_set _ _ _ _ (by rw [setOf_len]; exact hk), HE.out] at this
    exact this
/-- What is live ahead of an instruction. -/
def aheadS (x : InsU) (S : Int → Bool) (r : Int) : Bool := takesU x r || (S r && decide (x.dst ≠ r))
theorem aheadS_eq {ps : List Int} {regs : Int} {x : InsU} (h : InsOk ps regs x) (S : Int → Bool) : orS (fun r => S r && decide (x.dst ≠ r)) (occVs (valsU x)) = aheadS x S := by
  funext r
  unfold orS aheadS
  rw [takes_vals h, Bool.or_comm]
/-- The end of a function without results, behind loops over iterators. -/
theorem end_none_m {P : Program} {F : Fence} {n : Nat} {fn : Func} {R : Ending → World → Prop} {a : Act} {w : World} {B : Nat} (hM : Marks B a.defers w) (h : fn.results = #[])
    (hR : ∀ w', Stands w w' → Below B w w' → R (.returned (.tuple #[])) w') : bodyPostM F n P fn R .normal a w :=
  run_results_frame a.defers w hM fun w' hs hk => ⟨.tuple #[], results_none h _ _ _, hR w' hs (hs.below hk)⟩
/-- .. within the loop over an instruction's values. -/
def TNow (W5 : World) (g n c : Nat) (tl : List Value) (S : Int → Bool) (x : InsU) (g2 : Nat) (pre : List { v : Opd // v ∈ valsU x }) (W : World) : Prop :=
  Blk W g 4 (boolsT tl (setOf n (orS S (occVs (pre.map Subtype.val))))) ∧ Blk W g2 129 #[.slice (some ⟨g, 0, none⟩) n c] ∧ BelowBut g W5.heap.size W5 W
set_option maxRecDepth 100000 in
set_option maxHeartbeats 4000000 in
theorem SetAhead_any {ps : List Int} {regs : Int} (op dst : Int) (ar br : Bool) (an bn fn : Int) (xA : Option Addr) (xl xc : Nat) (args : List Opd) (g n c n₀ : Nat) (tl : List Value) (S : Int → Bool) (w : World) (hn : (n : Int) = regs) (hb : Blk w g 4 (boolsT tl (setOf n S))) (hx : InsOk ps regs ⟨op, dst, ⟨ar, an⟩, ⟨br, bn⟩, fn, args⟩)
    (hA : OpdsAt w n₀ (.slice xA xl xc) args) (hng : n₀ ≤ g) :
    Calls Tryz.prog 78 #[.slice (some ⟨g, 0, none⟩) n c, .agg #[.int .i64 op, .int .i64 dst, .bool ar, .int .i64 an, .bool br, .int .i64 bn, .int .i64 fn, .slice xA xl xc]] w fun e w' => e = .returned (.tuple #[]) ∧ BelowBut g w.heap.size w w' ∧ Blk w' g 4 (boolsT tl (setOf n (aheadS ⟨op, dst, ⟨ar, an⟩, ⟨br, bn⟩, fn, args⟩ S))) := by
  have HX := Lib.hid hx
  have HA := Lib.hid hA
  have Hn := Lib.hid hn
  have hdst := hx.dst
  have hgl := hb.lt
  have HB0 : Hid (Below w.heap.size w ((w.alloc (.cells #[.slice (some ⟨g, 0, none⟩) n c] 129)).alloc (.cells #[.int .i64 op, .int .i64 dst, .bool ar, .int .i64 an, .bool br, .int .i64 bn, .int .i64 fn, .slice xA xl xc] 69))) := Lib.hid (((Below.refl _ _).alloc (Nat.le_refl _) _).alloc (by simp) _)
  have HG0 : Hid (Blk ((w.alloc (.cells #[.slice (some ⟨g, 0, none⟩) n c] 129)).alloc (.cells #[.int .i64 op, .int .i64 dst, .bool ar, .int .i64 an, .bool br, .int .i64 bn, .int .i64 fn, .slice xA xl xc] 69)) g 4 (boolsT tl (setOf n S))) := Lib.hid ((hb.alloc _).alloc _)
  have HS0 : Hid (Blk ((w.alloc (.cells #[.slice (some ⟨g, 0, none⟩) n c] 129)).alloc (.cells #[.int .i64 op, .int .i64 dst, .bool ar, .int .i64 an, .bool br, .int .i64 bn, .int .i64 fn, .slice xA xl xc] 69)) w.heap.size 129 #[.slice (some ⟨g, 0, none⟩) n c]) := Lib.hid ((Blk.new w _ _).alloc _)
  have HI0 : Hid (Blk ((w.alloc (.cells #[.slice (some ⟨g, 0, none⟩) n c] 129)).alloc (.cells #[.int .i64 op, .int .i64 dst, .bool ar, .int .i64 an, .bool br, .int .i64 bn, .int .i64 fn, .slice xA xl xc] 69)) (w.heap.size + 1) 69 #[.int .i64 op, .int .i64 dst, .bool ar, .int .i64 an, .bool br, .int .i64 bn, .int .i64 fn, .slice xA xl xc]) := Lib.hid (by simpa using Blk.new (w.alloc (.cells #[.slice (some ⟨g, 0, none⟩) n c] 129)) 69 #[.int .i64 op, .int .i64 dst, .bool ar, .int .i64 an, .bool br, .int .i64 bn, .int .i64 fn, .slice xA xl xc])
  clear hb hx hA hn
  refine (callsIn_wide (n := 3)).1 (callsIn_of_wp_marks Tryz.func78 rfl trivial (wpIn_wide.2 ?_) rfl)
  simp only [Tryz.ntmps78, List.size_toArray, List.length_cons, List.length_nil, Nat.reduceAdd, Nat.reduceSub, Array.replicate_succ, Array.replicate_zero, List.push_toArray, List.append_toArray, List.nil_append, List.cons_append]
  go_upto_region 1 with fail
  generalize (w.alloc (.cells #[.slice (some ⟨g, 0, none⟩) n c] 129)).alloc (.cells #[.int .i64 op, .int .i64 dst, .bool ar, .int .i64 an, .bool br, .int .i64 bn, .int .i64 fn, .slice xA xl xc] 69) = W0 at *
  generalize hg1 : w.heap.size + 1 = g1 at *
  have hg01 : g ≠ g1 := by omega
  have hg02 : g ≠ w.heap.size := by omega
  clear hg1
  have i1 := HI0.out.cell 1
  have s0 := HS0.out.cell 0
  go_upto_if 7 with fail
  go_cut [] from 8 to 11 (fun wx => Hid (Blk wx g 4 (boolsT tl (setOf n (fun r => S r && decide (dst ≠ r))))) ∧ Hid (BelowBut g W0.heap.size W0 wx))
  case first =>
    by_cases hd : 0 ≤ dst
    · have hdn : dst < (n : Int) := by
        have h1 := Hn.out
        rcases hdst with h | h
        · dsimp only at h; omega
        · dsimp only at h; omega
      obtain ⟨q, hq⟩ : ∃ q : Nat, dst = (q : Int) := ⟨dst.toNat, by omega⟩
      have hqt : dst.toNat = q := by omega
      have hqn : q < n := by omega
      have hc := (HG0.out.cell q).trans (boolsT_at (setOf_at hqn (S := S)))
      have hfz := HG0.out.frozen q
      have HE : Hid (Blk (W0.setCell ⟨g, q, none⟩ (.bool false)) g 4 (boolsT tl (setOf n (fun r => S r && decide (dst ≠ r))))) := Lib.hid (by
        have h := HG0.out.set_ q (.bool false)
        rw [boolsT_set _ _ _ _ (by rw [setOf_len]; exact hqn), setOf_put (T := fun r => S r && decide (dst ≠ r)) (fun z hz => ?_)] at h
        · exact h
        · by_cases e : z = q
          · subst e; rw [if_pos rfl, hq]; simp
          · rw [if_neg e]
            have : dst ≠ ((z : Nat) : Int) := by omega
            simp [this])
      generalize S (q : Int) = b0 at *
      clear hq hdst
      go_wp2_with fail
      go_meet
      exact ⟨HE, Lib.hid (BelowBut.set _ _ _ _ _)⟩
    · have HE : Hid (Blk W0 g 4 (boolsT tl (setOf n (fun r => S r && decide (dst ≠ r))))) := Lib.hid (by
        have h := HG0.out
        rw [setOf_congr (T := fun r => S r && decide (dst ≠ r)) (fun z hz => ?_)] at h
        · exact h
        · have : dst ≠ ((z : Nat) : Int) := by omega
          simp [this])
      clear hdst
      go_wp2_with fail
      go_meet
      exact ⟨HE, Lib.hid (BelowBut.refl _ _ _)⟩
  case rest =>
    obtain ⟨HGc, HBc⟩ := hcut
    obtain ⟨S', hS'⟩ : ∃ S', (fun r => S r && decide (dst ≠ r)) = S' := ⟨_, rfl⟩
    rw [hS'] at HGc
    have HS' := Lib.hid hS'
    clear hS'
    have HIc := Lib.hid (HBc.out.blk HI0.out HI0.out.lt hg01.symm)
    have HSc := Lib.hid (HBc.out.blk HS0.out HS0.out.lt hg02.symm)
    clear i1 s0 hdst
    have q0 := HIc.out.cell 0
    have q1 := HIc.out.cell 1
    have q2 := HIc.out.cell 2
    have q3 := HIc.out.cell 3
    have q4 := HIc.out.cell 4
    have q5 := HIc.out.cell 5
    have q6 := HIc.out.cell 6
    have q7 := HIc.out.cell 7
    go_wp2_with fail
    refine (Vals_any op dst ar br an bn fn xA xl xc wc).mono ?_
    rintro e W5 ⟨rfl, rfl⟩
    clear q0 q1 q2 q3 q4 q5 q6 q7
    have HV5 : Hid (Blk (wc.alloc (.cells #[.int .i64 op, .int .i64 dst, .bool ar, .int .i64 an, .bool br, .int .i64 bn, .int .i64 fn, .slice xA xl xc] 69)) wc.heap.size 69 #[.int .i64 op, .int .i64 dst, .bool ar, .int .i64 an, .bool br, .int .i64 bn, .int .i64 fn, .slice xA xl xc]) := Lib.hid (Blk.new _ _ _)
    have HG5 := Lib.hid (HGc.out.alloc (.cells #[.int .i64 op, .int .i64 dst, .bool ar, .int .i64 an, .bool br, .int .i64 bn, .int .i64 fn, .slice xA xl xc] 69))
    have HS5 := Lib.hid (HSc.out.alloc (.cells #[.int .i64 op, .int .i64 dst, .bool ar, .int .i64 an, .bool br, .int .i64 bn, .int .i64 fn, .slice xA xl xc] 69))
    have HB5 : Hid (BelowBut g w.heap.size w (wc.alloc (.cells #[.int .i64 op, .int .i64 dst, .bool ar, .int .i64 an, .bool br, .int .i64 bn, .int .i64 fn, .slice xA xl xc] 69))) := Lib.hid (((but_of HB0.out).trans (but_less HBc.out HB0.out.size)).alloc (by have := HB0.out.size; have := HBc.out.size; omega) _)
    have hgv : g ≠ wc.heap.size := by have := HGc.out.lt; omega
    have hS5 : w.heap.size ≤ (wc.alloc (.cells #[.int .i64 op, .int .i64 dst, .bool ar, .int .i64 an, .bool br, .int .i64 bn, .int .i64 fn, .slice xA xl xc] 69)).heap.size := HB5.out.size
    generalize wc.alloc (.cells #[.int .i64 op, .int .i64 dst, .bool ar, .int .i64 an, .bool br, .int .i64 bn, .int .i64 fn, .slice xA xl xc] 69) = W5 at *
    generalize wc.heap.size = zv at *
    clear HGc HBc HSc HIc HI0 HS0 HG0 HB0
    go_wp2_with fail
    refine wp_range_boxed (q := 4) 66 g (gf := 54) (lb := #[.pointer (some ⟨zv, 0, none⟩)]) rfl (fun a W => MuLone.run_callFunc_enter Tryz.func54 (by kernel_rfl) rfl a W)
      (enc := fun v : { v : Opd // v ∈ valsU ⟨op, dst, ⟨ar, an⟩, ⟨br, bn⟩, fn, args⟩ } => .agg #[.bool v.1.reg, .int .i64 v.1.n]) (cells := fun v => #[.bool v.1.reg, .int .i64 v.1.n])
      (vals_stops 2 (by omega) zv g n₀ ⟨op, dst, ⟨ar, an⟩, ⟨br, bn⟩, fn, args⟩ HX.out.op xA xl xc W5 hgv.symm hng HG5.out.lt HV5.out (HA.out.move (Nat.le_refl _) (HB5.out.kept (by omega) hng))) HG5.out.lt
      (TNow W5 g n c tl S' ⟨op, dst, ⟨ar, an⟩, ⟨br, bn⟩, fn, args⟩ w.heap.size)
      (fun s A B row hs hg hr => ⟨blk_grown hs.1 hg (fun r e => (hr r e).2), blk_grown hs.2.1 hg (fun r e => (hr r e).2), hs.2.2.grown hg hs.2.2.size (fun r e => .inl (hr r e).1)⟩)
      ⟨by have h := HG5.out; rw [← orS_nil S'] at h; exact h, HS5.out, BelowBut.refl _ _ _⟩ ?assign (fun pre W o _ hi => ⟨hi.1.alloc o, hi.2.1.alloc o, hi.2.2.alloc hi.2.2.size o⟩) ?body ?done
    case assign =>
      intro lp v W K hK
      simp only [List.set_cons_succ, List.set_cons_zero] at hK ⊢
      gi_wp2_with fail
      exact hK
    case body =>
      rintro lp pre v Bx W h1 h2 ⟨hi, hs, hb⟩ hv hlen
      simp only [List.set_cons_succ, List.set_cons_zero]
      have v0 := hv.cell 0
      have v1 := hv.cell 1
      have k0 := hs.cell 0
      have HI := Lib.hid hi
      have HB := Lib.hid hb
      have HS := Lib.hid hs
      clear hi hb hlen hs
      gi_wp2_with fail
      refine ⟨trivial, (CallsIn.inRound lp (callsIn_wide.2 (take_any v.1 g n c tl _ W HI.out (by rw [Hn.out]; exact vals_in HX.out v.1 v.2)))).mono ?_⟩
      rintro e W' ⟨rfl, hbj, hoj⟩
      have HF : Hid (BelowBut g W.heap.size W W' ∧ TNow W5 g n c tl S' ⟨op, dst, ⟨ar, an⟩, ⟨br, bn⟩, fn, args⟩ w.heap.size (pre ++ [v]) W') := Lib.hid (by
        refine ⟨hbj, ?_, hbj.blk HS.out HS.out.lt hg02.symm, HB.out.trans (but_less hbj HB.out.size)⟩
        rw [List.map_append, occVs_app, List.map_singleton, occVs_one, ← orS_app]
        exact hoj)
      clear hbj hoj v0 v1 k0 HI HB HS
      gi_wp2_with fail
      exact HF.out
    case done =>
      rintro D xs W hD hxs ⟨hi, hs, hb⟩ hK
      have HMn : Hid (Marks w.heap.size [{ target := .collected D, args := #[] }] W) := Lib.hid ((Marks.nil w.heap.size W5).push hS5 hD hK (fun D' _ hD' => (hb.block D' (Array.getElem?_eq_some_iff.1 hD').1 (fun e => by have h := HG5.out; unfold Blk at h; rw [← e, hD'] at h; cases h)).trans hD'))
      have HI : Hid (Blk W g 4 (boolsT tl (setOf n (aheadS ⟨op, dst, ⟨ar, an⟩, ⟨br, bn⟩, fn, args⟩ S)))) := Lib.hid (by
        rw [hxs, ← HS'.out, aheadS_eq HX.out S] at hi
        exact hi)
      have HBW : Hid (BelowBut g w.heap.size w W) := Lib.hid (HB5.out.trans (but_less hb hS5))
      clear hi hs hb hK hxs HB5 HG5 HS5 HV5
      go_wp2_with fail
      refine end_none_m HMn.out rfl ?_
      intro w' hs hb
      exact ⟨rfl, HBW.out.trans (but_of hb), hs.blk HI.out⟩
end Go.Proofs.YtiknhfbkphoceaaGreatDoor
namespace Go.Proofs.YtiknhfbkphoceaaGreatDoor
open Go.RowKit

/-- The cells of a slice that the call owns. -/
theorem row_cell {w : World} {base g n cap : Nat} {e : TypeId} {size : Nat} {xs : List Value} (h : w.ownsRow base e size (.slice (some ⟨g, 0, none⟩) n cap) n xs) {j : Nat} {u : Value} (hu : xs[j]? = some u) : w.cell? ⟨g, j, none⟩ = some u := by
  have hj := (List.getElem?_eq_some_iff.1 hu).1
  rw [h.1] at hj
  rw [World.ownsRow.cellAt h j hj, hu]
theorem row_more {w : World} {base base' : Nat} {e : TypeId} {size n : Nat} {v : Value} {xs : List Value} (h : w.ownsRow base e size v n xs) (hb : base' ≤ base) : w.ownsRow base' e size v n xs := by
  obtain ⟨h1, h2⟩ := h
  refine ⟨h1, ?_⟩
  rcases h2 with h2 | ⟨g, cap, cur, e, hg, h3⟩
  · exact .inl h2
  · exact .inr ⟨g, cap, cur, e, Nat.le_trans hb hg, h3⟩
/-- The slice value v reads as lists of numbers, below block B. -/
def RowsAt (w : World) (B : Nat) (v : Value) (xss : List (List Int)) : Prop :=
  ∃ (A : Option Addr) (c : Nat), v = .slice A xss.length c ∧ xss.length ≤ c ∧ c ≤ 9223372036854775807 ∧
    (0 < xss.length → ∃ b off, A = some ⟨b, off, none⟩ ∧ b < B ∧ ∀ (k : Nat) (xs : List Int), xss[k]? = some xs → ∃ r, w.cell? ⟨b, off + k, none⟩ = some r ∧ IntsAt w B r xs)
theorem RowsAt.move {W w1 : World} {B B' : Nat} {v : Value} {xss : List (List Int)} (h : RowsAt W B v xss) (hB : B ≤ B') (hk : Kept W w1 B) : RowsAt w1 B' v xss := by
  obtain ⟨A, c, e, h1, h2, h3⟩ := h
  refine ⟨A, c, e, h1, h2, fun hl => ?_⟩
  obtain ⟨b, off, e1, e2, e3⟩ := h3 hl
  refine ⟨b, off, e1, by omega, fun k m hk' => ?_⟩
  obtain ⟨r, hr, hi⟩ := e3 k m hk'
  exact ⟨r, (hk _ _ e2).trans hr, hi.move hB hk⟩
theorem RowsAt.nil (w : World) (B : Nat) : RowsAt w B (.slice none 0 0) [] := ⟨none, 0, rfl, by simp, by omega, fun h => by simp at h⟩
/-- The call owns the slice v, which reads as lists of numbers, whose rows it owns, too. -/
def RowsOwn (w : World) (base : Nat) (v : Value) (xss : List (List Int)) : Prop :=
  ∃ rs : List Value, rs.length = xss.length ∧ w.ownsRow base 26 1 v rs.length rs ∧ ∀ (i : Nat) (r : Value) (xs : List Int), rs[i]? = some r → xss[i]? = some xs → OwnInts w base r xs
theorem RowsOwn.nil (w : World) (base : Nat) : RowsOwn w base (.slice none 0 0) [] := ⟨[], rfl, World.ownsRow_nil _ _ _ _, fun i r xs h _ => by simp at h⟩
theorem RowsOwn.below {w w' : World} {base B : Nat} {v : Value} {xss : List (List Int)} (h : RowsOwn w base v xss) (hb : Below B w w') (hB : B = w.heap.size) : RowsOwn w' base v xss := by
  obtain ⟨rs, h1, h2, h3⟩ := h
  refine ⟨rs, h1, ?_, fun i r xs hr hx => (h3 i r xs hr hx).below hb hB⟩
  subst hB
  exact row_lt h2 hb
theorem RowsOwn.rows {w : World} {base : Nat} {v : Value} {xss : List (List Int)} (h : RowsOwn w base v xss) : RowsAt w w.heap.size v xss := by
  obtain ⟨rs, h1, h2, h3⟩ := h
  rcases h2.2 with ⟨rfl, hn⟩ | ⟨g, cap, cur, rfl, _, hgg, hnc, hcm, _, _⟩
  · have : xss = [] := List.eq_nil_of_length_eq_zero (by omega)
    subst this
    exact RowsAt.nil _ _
  · refine ⟨some ⟨g, 0, none⟩, cap, by rw [h1], by omega, by unfold maxLen at hcm; omega, fun _ => ⟨g, 0, rfl, (World.ownsRow.lt h2 g rfl).2, fun k xs hk => ?_⟩⟩
    have hkl : k < rs.length := by have := (List.getElem?_eq_some_iff.1 hk).1; omega
    have hc := row_cell h2 (List.getElem?_eq_getElem hkl)
    exact ⟨rs[k], by simpa using hc, (h3 k _ xs (List.getElem?_eq_getElem hkl) hk).ints⟩
theorem own_oneCell {w : World} {base : Nat} {v : Value} {xs : List Int} (h : OwnInts w base v xs) : v.oneCell' = true := by
  obtain ⟨A, c, rfl⟩ := row_form h
  rfl
theorem RowsOwn.snoc {w w' : World} {base : Nat} {v v' r : Value} {xss : List (List Int)} {xs : List Int} {rs : List Value} {H : Nat} (h1 : rs.length = xss.length) (h2 : w.ownsRow base 26 1 v rs.length rs)
    (h3 : ∀ (i : Nat) (r : Value) (xs : List Int), rs[i]? = some r → xss[i]? = some xs → OwnInts w base r xs) (hr : OwnInts w base r xs) (ha : Appended w base 26 1 v (rs.length + 1) (rs ++ [r]) H v' w') : RowsOwn w' base v' (xss ++ [xs]) := by
  have keep : ∀ (q : Value) (ys : List Int), OwnInts w base q ys → OwnInts w' base q ys := fun q ys hq =>
    ha.row (v0 := q) hq fun k hk => own_apart (e' := 26) hq h2 (by decide) k hk
  refine ⟨rs ++ [r], by simp [h1], by rw [List.length_append]; exact ha.own, fun i q ys hq hy => ?_⟩
  rcases Nat.lt_or_ge i rs.length with hi | hi
  · rw [List.getElem?_append_left hi] at hq
    rw [List.getElem?_append_left (by omega)] at hy
    exact keep q ys (h3 i q ys hq hy)
  · rw [List.getElem?_append_right hi] at hq
    rw [List.getElem?_append_right (by omega)] at hy
    rcases Nat.eq_or_lt_of_le hi with he | he
    · rw [← he, Nat.sub_self] at hq
      rw [← he, h1, Nat.sub_self] at hy
      simp only [List.getElem?_cons_zero, Option.some.injEq] at hq hy
      subst hq
      subst hy
      exact keep _ _ hr
    · rw [List.getElem?_eq_none (by simp; omega)] at hq
      cases hq
/-- A set's value: its block, and its room. -/
def setV (n : Nat) (g : Nat × Nat) : Value := .slice (some ⟨g.1, 0, none⟩) n g.2
/-- A set in a block. -/
def SetIn (w : World) (g n : Nat) (S : Int → Bool) : Prop := ∃ tl, Blk w g 4 (boolsT tl (setOf n S))
theorem SetIn.lt {w : World} {g n : Nat} {S : Int → Bool} (h : SetIn w g n S) : g < w.heap.size := by obtain ⟨tl, h⟩ := h; exact h.lt
theorem SetIn.below {w w' : World} {g n B : Nat} {S : Int → Bool} (h : SetIn w g n S) (hb : Below B w w') (hg : g < B) : SetIn w' g n S := by obtain ⟨tl, h⟩ := h; exact ⟨tl, h.below hb hg⟩
theorem SetIn.cell {w : World} {g n : Nat} {S : Int → Bool} (h : SetIn w g n S) {j : Nat} (hj : j < n) : w.cell? ⟨g, j, none⟩ = some (.bool (S (j : Int))) := by
  obtain ⟨tl, h⟩ := h
  exact (h.cell j).trans (boolsT_at (setOf_at hj))
theorem infoSet : (Tryz.prog.info? 129).map (fun i => (i.zero, i.size, i.bytes)) = some (some (.slice none 0 0), 1, 24) := by kernel_rfl
theorem infoBool : (Tryz.prog.info? 4).map (fun i => (i.zero, i.size, i.bytes)) = some (some (.bool false), 1, 1) := by kernel_rfl
/-- The call owns a slice of sets. -/
structure SetsOwn (w : World) (base : Nat) (v : Value) (gs : List (Nat × Nat)) (n : Nat) (F : Nat → Int → Bool) : Prop where
  own : w.ownsRow base 129 1 v gs.length (gs.map (setV n))
  set : ∀ (i : Nat) (g : Nat × Nat), gs[i]? = some g → base ≤ g.1 ∧ SetIn w g.1 n (F i)
theorem SetsOwn.nil (w : World) (base n : Nat) (F : Nat → Int → Bool) : SetsOwn w base (.slice none 0 0) [] n F := ⟨World.ownsRow_nil _ _ _ _, fun i g h => by simp at h⟩
theorem SetsOwn.below {w w' : World} {base : Nat} {v : Value} {gs : List (Nat × Nat)} {n : Nat} {F : Nat → Int → Bool} (h : SetsOwn w base v gs n F) (hb : Below w.heap.size w w') : SetsOwn w' base v gs n F :=
  ⟨row_lt h.own hb, fun i g hg => ⟨(h.set i g hg).1, (h.set i g hg).2.below hb (h.set i g hg).2.lt⟩⟩
theorem SetsOwn.snoc {w w' : World} {base : Nat} {v v' : Value} {gs : List (Nat × Nat)} {n H : Nat} {g : Nat × Nat} {F : Nat → Int → Bool} (h : SetsOwn w base v gs n F) (hg : base ≤ g.1) (hs : SetIn w g.1 n (F gs.length))
    (ha : Appended w base 129 1 v (gs.length + 1) (gs.map (setV n) ++ [setV n g]) H v' w') : SetsOwn w' base v' (gs ++ [g]) n F := by
  refine ⟨by rw [List.length_append, List.map_append]; exact ha.own, fun i q hq => ?_⟩
  rcases Nat.lt_or_ge i gs.length with hi | hi
  · rw [List.getElem?_append_left hi] at hq
    obtain ⟨h1, tl, h2⟩ := h.set i q hq
    exact ⟨h1, tl, ha.blk h.own h2 (by decide)⟩
  · rw [List.getElem?_append_right hi] at hq
    obtain ⟨rfl, rfl⟩ : i = gs.length ∧ g = q := by
      rcases Nat.eq_or_lt_of_le hi with he | he
      · rw [← he, Nat.sub_self] at hq
        simp only [List.getElem?_cons_zero, Option.some.injEq] at hq
        exact ⟨he.symm, hq⟩
      · rw [List.getElem?_eq_none (by simp; omega)] at hq
        cases hq
    obtain ⟨tl, hs⟩ := hs
    exact ⟨hg, tl, ha.blk h.own hs (by decide)⟩
theorem SetsOwn.cell {w : World} {base : Nat} {A : Option Addr} {l c : Nat} {gs : List (Nat × Nat)} {n : Nat} {F : Nat → Int → Bool} (h : SetsOwn w base (.slice A l c) gs n F) {i : Nat} (hi : i < l) : ∃ g0 g, A = some ⟨g0, 0, none⟩ ∧ gs[i]? = some g ∧ w.cell? ⟨g0, i, none⟩ = some (setV n g) ∧ base ≤ g.1 ∧ SetIn w g.1 n (F i) := by
  rcases h.own.2 with ⟨e, hn⟩ | ⟨g0, cap, cur, e, _⟩
  · injection e; omega
  · injection e with e1 e2 e3
    subst e1; subst e2; subst e3
    obtain ⟨g, hg⟩ : ∃ g, gs[i]? = some g := ⟨gs[i], List.getElem?_eq_getElem _⟩
    exact ⟨g0, g, rfl, hg, row_cell h.own (by rw [List.getElem?_map, hg]; rfl), h.set i g hg⟩
theorem SetsOwn.form {w : World} {base : Nat} {v : Value} {gs : List (Nat × Nat)} {n : Nat} {F : Nat → Int → Bool} (h : SetsOwn w base v gs n F) : ∃ A c, v = .slice A gs.length c := row_form h.own
/-- The registers of a set, rising. -/
def listS (n : Nat) (S : Int → Bool) : List Int := ((List.range n).filter fun (r : Nat) => S ((r : Nat) : Int)).map fun (r : Nat) => ((r : Nat) : Int)
theorem listS_succ (n : Nat) (S : Int → Bool) : listS (n + 1) S = if S (n : Int) = true then listS n S ++ [(n : Int)] else listS n S := by
  unfold listS
  rw [List.range_succ, List.filter_append, List.map_append]
  split
  · rename_i h; simp [h]
  · rename_i h; simp [h]
theorem listS_len (n : Nat) (S : Int → Bool) : (listS n S).length ≤ n := by
  unfold listS
  rw [List.length_map]
  exact Nat.le_trans (List.length_filter_le _ _) (by simp)
theorem listS_mem {n : Nat} {S : Int → Bool} {r : Int} : r ∈ listS n S ↔ 0 ≤ r ∧ r < n ∧ S r = true := by
  unfold listS
  simp only [List.mem_map, List.mem_filter, List.mem_range]
  constructor
  · rintro ⟨q, ⟨h1, h2⟩, rfl⟩
    exact ⟨by omega, by omega, h2⟩
  · rintro ⟨h1, h2, h3⟩
    refine ⟨r.toNat, ⟨by omega, ?_⟩, by omega⟩
    rw [show ((r.toNat : Nat) : Int) = r by omega]
    exact h3
set_option maxRecDepth 100000 in
set_option maxHeartbeats 1000000 in
theorem list_any (g n c : Nat) (S : Int → Bool) (w : World) (hb : SetIn w g n S) (hn : n ≤ 100) :
    Calls Tryz.prog 80 #[.slice (some ⟨g, 0, none⟩) n c] w fun e w' => ∃ v, e = .returned v ∧ OwnInts w' w.heap.size v (listS n S) ∧ Below w.heap.size w w' := by
  have HG := Lib.hid hb
  have hgl := hb.lt
  clear hb
  go_enter Tryz.func80, Tryz.ntmps80
  go_upto_region 3 with fail
  go_loopg [3, 8] n (fun gk s i wr => ∃ j : Nat, j + gk = n ∧ i = .int .i64 j ∧ Hid (OwnInts wr w.heap.size s (listS j S)) ∧ Hid (Below w.heap.size w wr))
  case atStart => exact ⟨0, by omega, rfl, Lib.hid (OwnInts.nil _ _), Lib.hid (Below.refl _ _)⟩
  case round =>
    obtain ⟨j, hj, rfl, HO, HB⟩ := hrel
    rcases gk with _ | m
    · have hlt : ¬ (j : Int) < (n : Int) := by omega
      have hjn : j = n := by omega
      subst hjn
      go_wp2_with fail
      go_ret
      exact ⟨_, rfl, HO.out, HB.out⟩
    · have hlt : (j : Int) < (n : Int) := by omega
      have hj0 : (0 : Int) ≤ (j : Int) := Int.natCast_nonneg j
      have hc := (bcell HB.out hgl).trans (HG.out.cell (show j < n by omega))
      have hlen := Lib.hid (listS_len j S)
      cases hS : S (j : Int) with
      | true =>
        rw [hS] at hc
        have HE : Hid (listS (j + 1) S = listS j S ++ [(j : Int)]) := Lib.hid (by rw [listS_succ, if_pos hS])
        have hz := HB.out.size
        clear hS
        go_wp2_with (at_builtin; refine app_one rfl _ _ 26 3 rfl (.int .i64 0) 1 8 Tryz.underlying26 infoInt rfl (by decide) (by decide) w.heap.size _ _ _ (by rfl) HO.out _ [.int .i64 (j : Int)] (by rfl) rfl (fun x hx => by simp at hx; subst hx; rfl) rfl (by have := hlen.out; omega) hz ?_; intro v4 w4 HA4)
        have HO4 : Hid (OwnInts w4 w.heap.size v4 (listS (j + 1) S)) := Lib.hid (by rw [HE.out]; exact ints_snoc HA4.out.own)
        have HB4 := Lib.hid (HB.out.trans HA4.out.below)
        go_roundg m
        case measure => omega
        case rel => exact ⟨j + 1, by omega, by go_num, HO4, HB4⟩
      | false =>
        rw [hS] at hc
        have HE : Hid (OwnInts wr w.heap.size u3 (listS (j + 1) S)) := Lib.hid (by rw [listS_succ, if_neg (by simp [hS])]; exact HO.out)
        clear hS
        go_wp2_with fail
        go_roundg m
        case measure => omega
        case rel => exact ⟨j + 1, by omega, by go_num, HE, HB⟩
set_option maxRecDepth 100000 in
set_option maxHeartbeats 1000000 in
theorem lists_any (base : Nat) (v : Value) (gs : List (Nat × Nat)) (n : Nat) (F : Nat → Int → Bool) (w : World) (hs : SetsOwn w base v gs n F) (hn : n ≤ 100) (hg : gs.length ≤ 40) :
    Calls Tryz.prog 58 #[v] w fun e w' => ∃ v', e = .returned v' ∧ RowsOwn w' w.heap.size v' ((List.range gs.length).map fun i => listS n (F i)) ∧ Below w.heap.size w w' := by
  obtain ⟨A, c, rfl⟩ := hs.form
  obtain ⟨l, hl⟩ : ∃ l, gs.length = l := ⟨_, rfl⟩
  rw [hl] at hs hg ⊢
  have HS := Lib.hid hs
  clear hs
  go_enter Tryz.func58, Tryz.ntmps58
  go_upto_region 3 with fail
  go_loopg [3, 8] l (fun gk s i wr => ∃ j : Nat, j + gk = l ∧ i = .int .i64 j ∧ Hid (RowsOwn wr w.heap.size s ((List.range j).map fun i => listS n (F i))) ∧ Hid (Below w.heap.size w wr))
  case atStart => exact ⟨0, by omega, rfl, Lib.hid (RowsOwn.nil _ _), Lib.hid (Below.refl _ _)⟩
  case round =>
    obtain ⟨j, hj, rfl, HO, HB⟩ := hrel
    rcases gk with _ | m
    · have hlt : ¬ (j : Int) < (l : Int) := by omega
      have hjn : j = l := by omega
      subst hjn
      go_wp2_with fail
      go_ret
      exact ⟨_, rfl, HO.out, HB.out⟩
    · have hlt : (j : Int) < (l : Int) := by omega
      have hj0 : (0 : Int) ≤ (j : Int) := Int.natCast_nonneg j
      obtain ⟨g0, ⟨g, cg⟩, rfl, _, hc, _, hbk⟩ := HS.out.cell (show j < l by omega)
      have hc := (bcell HB.out (block_lt_of_cell hc)).trans hc
      have Hbk := Lib.hid (hbk.below HB.out hbk.lt)
      unfold setV at hc
      dsimp only at hc Hbk
      clear hbk
      go_wp2_with fail
      refine (list_any g n cg (F j) _ Hbk.out hn).mono ?_
      rintro e w3 ⟨v3, rfl, ho3, hb3⟩
      have HB3 := Lib.hid (HB.out.trans (hb3.mono HB.out.size))
      obtain ⟨rs, hr1, hr2, hr3⟩ := HO.out.below hb3 rfl
      have hrl : rs.length = j := by rw [hr1]; simp
      have HO3 : Hid (OwnInts w3 w.heap.size v3 (listS n (F j))) := Lib.hid (row_more ho3 HB.out.size)
      obtain ⟨A3, c3, rfl⟩ := row_form ho3
      have Hr := Lib.hid (And.intro hr1 (And.intro hr2 hr3))
      have hz := HB3.out.size
      clear hc hb3 ho3 hr1 hr2 hr3 Hbk
      go_wp2_with (at_builtin; refine app_one rfl _ _ 33 26 rfl (.slice none 0 0) 1 24 Tryz.underlying33 info_ints rfl (by decide) (by decide) w.heap.size _ _ _ (by rfl) Hr.out.2.1 _ [.slice A3 (listS n (F j)).length c3] (by rfl) rfl (fun x hx => by simp at hx; subst hx; rfl) rfl (by omega) hz ?_; intro v4 w4 HA4)
      have HO4 : Hid (RowsOwn w4 w.heap.size v4 ((List.range (j + 1)).map fun i => listS n (F i))) := Lib.hid (by
        rw [List.range_succ, List.map_append]
        exact RowsOwn.snoc Hr.out.1 Hr.out.2.1 Hr.out.2.2 HO3.out HA4.out)
      have HB4 := Lib.hid (HB3.out.trans HA4.out.below)
      go_roundg m
      case measure => omega
      case rel => exact ⟨j + 1, by omega, by go_num, HO4, HB4⟩
end Go.Proofs.YtiknhfbkphoceaaGreatDoor
namespace Go.Proofs.YtiknhfbkphoceaaGreatDoor
open Go.RowKit

/-- append(v, x...) where x is empty. -/
theorem app_zero {P : Program} {w : World} {ops : Array Oper} {rest : List Oper} {o : Oper} {a : Act} {Q : Exit → Act → World → Prop} (hgd : o.guard = none) (s x : Operand) (t e : TypeId)
    (ho : o.op = .call { callee := .builtin .append, args := #[s, x], argTypes := #[t, t] }) (i : TypeInfo) (ht : P.underlying t = some (.slice e)) (hi : P.info? e = some i)
    (A : Option Addr) (n c : Nat) (hs : a.eval s = .slice A n c) (hn : n ≤ c) (B : Option Addr) (d : Nat) (hx : a.eval x = .slice B 0 d) (hA : A = none → n = 0 ∧ c = 0) (hk : wpList P ops Q rest (a.put o.dst (.slice A n c)) w) : wpList P ops Q (o :: rest) a w := by
  have hrun : (Builtin.append_ #[t, t] o.type #[.slice A n c, .slice B 0 d]).run P w = .ok (.slice A n c) w := by
    cases A with
    | none =>
      obtain ⟨rfl, rfl⟩ := hA rfl
      cases B <;> simp [Builtin.append_, run_underlying ht, sizeOf, typeInfo, hi, Builtin.lenOf, Builtin.firstCells, loadCells, loadCellsFrom]
    | some A =>
      cases B <;> simp [Builtin.append_, run_underlying ht, sizeOf, typeInfo, hi, Builtin.lenOf, Builtin.firstCells, hn, storeCells, loadCells, loadCellsFrom]
  refine wpList_plain hgd fun K hK => ?_
  unfold Oper.wp execOp
  simp only [ho, resolve, invoke, builtin, Sem.run_bind, Sem.run_pure, Result.andThen_ok, List.map_toArray, List.map_cons, List.map_nil, hs, hx, hrun]
  exact hK _ _ hk
set_option maxRecDepth 100000 in
set_option maxHeartbeats 1000000 in
theorem Clone_any (g n c : Nat) (S : Int → Bool) (w : World) (hb : SetIn w g n S) (hn : n ≤ 100) :
    Calls Tryz.prog 76 #[.slice (some ⟨g, 0, none⟩) n c] w fun e w' => ∃ g' c', e = .returned (.slice (some ⟨g', 0, none⟩) n c') ∧ w.heap.size ≤ g' ∧ SetIn w' g' n S ∧ Below w.heap.size w w' := by
  have HG := Lib.hid hb
  have hgl := hb.lt
  clear hb
  have heq : ∀ (W : World) (a : Option Addr) (n c : Nat), (binOp .eql 129 (.slice a n c) (.slice none 0 0)).run Tryz.prog W = .ok (.bool a.isNone) W := fun W a n c => Lib.run_eql_slice_nil W _ _ a n c 0 0 Tryz.underlying129
  have HO : Hid ((w.alloc (.cells #[] 4)).ownsRow w.heap.size 4 1 (.slice (some ⟨w.heap.size, 0, none⟩) 0 0) 0 []) := Lib.hid (World.ownsRow_lit w #[] 0 (Nat.le_refl _) (by unfold maxLen; omega) rfl)
  have HB : Hid (Below w.heap.size w (w.alloc (.cells #[] 4))) := Lib.hid ((Below.refl _ _).alloc (Nat.le_refl _) _)
  have HS : Hid (∀ ad, (some ⟨g, 0, none⟩ : Option Addr) = some ad → ∀ j u, ((setOf n S).map Value.bool)[j]? = some u → (w.alloc (.cells #[] 4)).cell? (ad.add j) = some u) := Lib.hid (fun ad e j u hu => by
    cases e
    have hj : j < n := by
      have := (List.getElem?_eq_some_iff.1 hu).1
      simpa [setOf_len] using this
    rw [List.getElem?_map, setOf_at hj] at hu
    cases hu
    have hc := (bcell HB.out hgl).trans (HG.out.cell hj)
    have e2 : (⟨g, 0, none⟩ : Addr).add j = ⟨g, j, none⟩ := by
      unfold Addr.add
      split
      · rename_i h; subst h; rfl
      · simp
    rw [e2]
    exact hc)
  have HL : Hid (((setOf n S).map Value.bool).length = n * 1) := Lib.hid (by rw [List.length_map, setOf_len]; omega)
  by_cases h0 : n = 0
  · subst h0
    have HI : Hid (SetIn (w.alloc (.cells #[] 4)) w.heap.size 0 S) := Lib.hid ⟨[], Blk.new _ _ _⟩
    obtain ⟨i, hi, _⟩ := info_parts infoBool
    go_enter Tryz.func76, Tryz.ntmps76
    go_wp2_with (at_builtin; refine app_zero rfl _ _ 129 4 rfl i Tryz.underlying129 hi _ 0 0 (by rfl) (Nat.le_refl _) _ _ (by rfl) (fun e => by cases e) ?_)
    go_ret
    exact ⟨_, _, rfl, Nat.le_refl _, HI.out, HB.out⟩
  · go_enter Tryz.func76, Tryz.ntmps76
    go_wp2_with (at_builtin; refine app_src rfl _ _ 129 4 rfl (.bool false) 1 1 Tryz.underlying129 infoBool rfl (by decide) (by decide) w.heap.size _ 0 [] (by rfl) HO.out (some ⟨g, 0, none⟩) n c ((setOf n S).map Value.bool) (by rfl) HL.out (fun _ => ⟨_, rfl, HS.out _ rfl⟩) (fun x hx => by obtain ⟨y, _, rfl⟩ := List.mem_map.1 hx; rfl) (by omega) (by simp) _ rfl ?_; intro v4 w4 HA4; obtain ⟨g4, cap4, hv4, hg4, hgl4⟩ := World.ownsRow.form HA4.out.own (by omega); subst hv4)
    have HB4 := Lib.hid (HB.out.trans HA4.out.below)
    have HI : Hid (SetIn w4 g4 n S) := Lib.hid (by
      obtain ⟨h1, h2⟩ := HA4.out.own
      rcases h2 with ⟨e, _⟩ | ⟨g', cap', cur, e, _, hgg, _, _, hcs, ht⟩
      · cases e
      · injection e with e1 e2 e3
        injection e1 with e1
        injection e1 with e1
        subst e1
        refine ⟨cur.toList.drop ((0 + n) * 1), ?_⟩
        unfold boolsT Blk
        rw [List.nil_append] at ht
        rw [← ht, List.take_append_drop]
        simpa using hgg)
    go_ret
    exact ⟨g4, cap4, rfl, hg4, HI.out, HB4.out⟩
theorem setOf_decide {n : Nat} {S T : Int → Bool} {k : Nat} (hk : k < n) (h : S (k : Int) ≠ T (k : Int)) : decide (setOf n S = setOf n T) = false := by
  rw [decide_eq_false_iff_not]
  exact fun e => h (setOf_inj e k hk)
set_option maxRecDepth 100000 in
set_option maxHeartbeats 1000000 in
theorem EqualS_any (g n c g2 c2 : Nat) (S T : Int → Bool) (w : World) (hb : SetIn w g n S) (hb2 : SetIn w g2 n T) (hn : n ≤ 100) :
    Calls Tryz.prog 79 #[.slice (some ⟨g, 0, none⟩) n c, .slice (some ⟨g2, 0, none⟩) n c2] w fun e w' => e = .returned (.bool (decide (setOf n S = setOf n T))) ∧ Below w.heap.size w w' := by
  have HG := Lib.hid hb
  have HG2 := Lib.hid hb2
  clear hb hb2
  go_enter Tryz.func79, Tryz.ntmps79
  go_upto_region 4 with fail
  go_loopg [13] n (fun gk i wr => ∃ j : Nat, j + gk = n ∧ i = .int .i64 j ∧ Hid (∀ q : Nat, q < j → S (q : Int) = T (q : Int)) ∧ Hid (∃ m, wr = w.drewN m))
  case atStart => exact ⟨0, by omega, rfl, Lib.hid (fun q h => absurd h (Nat.not_lt_zero q)), Lib.hid ⟨0, rfl⟩⟩
  case round =>
    obtain ⟨j, hj, rfl, HN, HM⟩ := hrel
    obtain ⟨m, hm⟩ := HM.out
    subst hm
    clear HM
    rcases gk with _ | mk
    · have hlt : ¬ (j : Int) < (n : Int) := by omega
      have HE : Hid (decide (setOf n S = setOf n T) = true) := Lib.hid (decide_eq_true (setOf_congr fun q hq => HN.out q (by omega)))
      clear hj
      go_wp2_with fail
      go_ret
      exact ⟨ret_bool HE.out.symm, below_drewN (Below.refl _ _) m⟩
    · have hlt : (j : Int) < (n : Int) := by omega
      have hj0 : (0 : Int) ≤ (j : Int) := Int.natCast_nonneg j
      have hc : (w.drewN m).cell? ⟨g, j, none⟩ = some (.bool (S (j : Int))) := HG.out.cell (by omega)
      have hc2 : (w.drewN m).cell? ⟨g2, j, none⟩ = some (.bool (T (j : Int))) := HG2.out.cell (by omega)
      have HBm : Hid (Below w.heap.size w (w.drewN m)) := Lib.hid (below_drewN (Below.refl _ _) m)
      by_cases he : S (j : Int) = T (j : Int)
      · have HN2 : Hid (∀ q : Nat, q < j + 1 → S (q : Int) = T (q : Int)) := Lib.hid (fun q hq => by
          rcases Nat.lt_or_ge q j with h | h
          · exact HN.out q h
          · obtain rfl : q = j := by omega
            exact he)
        rw [he] at hc
        generalize T (j : Int) = b0 at *
        clear he
        have HW : Hid (∀ nq, ∃ m', (w.drewN m).drewN nq = w.drewN m') := Lib.hid (fun nq => ⟨m + nq, World.drewN_drewN _ _ _⟩)
        generalize w.drewN m = W at *
        go_wp2_with fail
        go_quiet (fail)
        have HM2 := Lib.hid (HW.out nq)
        go_wp2_with fail
        go_roundg mk
        case measure => omega
        case rel => exact ⟨j + 1, by omega, by go_num, HN2, HM2⟩
      · have HE : Hid (decide (setOf n S = setOf n T) = false) := Lib.hid (setOf_decide (by omega) he)
        have hne : (S (j : Int) == T (j : Int)) = false := by simpa using he
        generalize S (j : Int) = b1 at *
        generalize T (j : Int) = b2 at *
        clear he
        generalize w.drewN m = W at *
        go_wp2_with fail
        go_quiet (fail)
        go_wp2_with fail
        go_ret
        exact ⟨ret_bool HE.out.symm, below_drewN HBm.out _⟩
end Go.Proofs.YtiknhfbkphoceaaGreatDoor
