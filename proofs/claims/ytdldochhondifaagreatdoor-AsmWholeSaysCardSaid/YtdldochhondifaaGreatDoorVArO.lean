/-
  Texts of the claim AsmWholeSays (ArO): what each proves stands at its theorems.
  Conditions: as the theorems say.
-/
import Derived.Test.YtdldochhondifaaGreatDoorVArM
namespace Go.Proofs.YtdldochhondifaaGreatDoor
open Go.RowKit
attribute [local go_sem] Oper.semAt_some

/-- What has been read is of 64 bits. -/
def InsOk (x : Ins) : Prop := x.m.ok ∧ ∀ g, x.goal = some g → I64 g ∧ 0 ≤ g
def goalsFrom : Nat → List Ins → List (Nat × List UInt8)
  | _, [] => []
  | i, x :: l => (match x.goal with | some g => [(i, Lib.itoa g)] | none => []) ++ goalsFrom (i + 1) l
theorem goalsFrom_eq (code : List Ins) : goalsOf code = goalsFrom 0 code := by
  have key : ∀ (l : List Ins) (i : Nat), (l.zipIdx i).filterMap (fun x => x.1.goal.map fun g => (x.2, Lib.itoa g)) = goalsFrom i l := by
    intro l
    induction l with
    | nil => intro i; rfl
    | cons x l ih =>
      intro i
      rw [List.zipIdx_cons, List.filterMap_cons, goalsFrom, ← ih (i + 1)]
      cases x.goal <;> rfl
  exact key code 0
/-- The next goal, and what stands ahead of it. -/
theorem goals_next : ∀ (l : List Ins) (i : Nat) (j : Nat) (s : List UInt8) (rest : List (Nat × List UInt8)), goalsFrom i l = (j, s) :: rest →
    ∃ mid x post g, l = mid ++ x :: post ∧ (∀ y ∈ mid, y.goal = none) ∧ x.goal = some g ∧ j = i + mid.length ∧ s = Lib.itoa g ∧ rest = goalsFrom (j + 1) post
  | [], i, j, s, rest, h => by cases h
  | y :: l, i, j, s, rest, h => by
    rw [goalsFrom] at h
    cases hy : y.goal with
    | some g =>
      rw [hy] at h
      injection h with h1 h2
      injection h1 with h3 h4
      subst h3
      exact ⟨[], y, l, g, rfl, by simp, hy, rfl, h4.symm, h2.symm⟩
    | none =>
      rw [hy] at h
      obtain ⟨mid, x, post, g, h1, h2, h3, h4, h5, h6⟩ := goals_next l (i + 1) j s rest h
      refine ⟨y :: mid, x, post, g, by rw [h1]; rfl, fun z hz => ?_, h3, by rw [List.length_cons]; omega, h5, h6⟩
      rcases List.mem_cons.1 hz with rfl | hz
      · exact hy
      · exact h2 z hz
theorem goals_none : ∀ (l : List Ins) (i : Nat), goalsFrom i l = [] → ∀ x ∈ l, x.goal = none
  | [], _, _, x, h => by simp at h
  | y :: l, i, h, x, hx => by
    rw [goalsFrom] at h
    obtain ⟨h1, h2⟩ := List.append_eq_nil_iff.1 h
    have hy : y.goal = none := by
      cases hy : y.goal with
      | none => rfl
      | some g => rw [hy] at h1; cases h1
    rcases List.mem_cons.1 hx with rfl | hx
    · exact hy
    · exact goals_none l (i + 1) h2 x hx
/-- So far all goals are met: those of pre. -/
def SetTo (st : PSt) (k : Nat) (ms : List Mac) : Prop :=
  ∃ pre post, st.code = pre ++ post ∧ (goalsOf st.code).drop k = goalsFrom pre.length post ∧ ms = pre.map (setP st.labs) ++ post.map (fun x => x.m) ∧ ∀ x ∈ pre, lostP st.labs st.code.length x = false
theorem SetTo.zero (st : PSt) : SetTo st 0 (st.code.map fun x => x.m) := ⟨[], st.code, rfl, by rw [List.drop_zero]; exact goalsFrom_eq _, rfl, by simp⟩
theorem setP_none {labs : List (Int × Nat)} {x : Ins} (h : x.goal = none) : setP labs x = x.m := by unfold setP; rw [h]
theorem lost_none {labs : List (Int × Nat)} {n : Nat} {x : Ins} (h : x.goal = none) : lostP labs n x = false := by unfold lostP; rw [h]
theorem SetTo.len {st : PSt} {k : Nat} {ms : List Mac} (h : SetTo st k ms) : ms.length = st.code.length := by
  obtain ⟨pre, post, h1, _, h3, _⟩ := h
  rw [h3, h1]
  simp
theorem SetTo.done {st : PSt} {k : Nat} {ms : List Mac} (h : SetTo st k ms) (hk : (goalsOf st.code).length ≤ k) : ms = settled st ∧ settleP st = none := by
  obtain ⟨pre, post, h1, h2, h3, h4⟩ := h
  rw [List.drop_eq_nil_of_le hk] at h2
  have hn := goals_none post _ h2.symm
  refine ⟨?_, ?_⟩
  · unfold settled
    rw [h3, h1, List.map_append]
    congr 1
    exact List.map_congr_left fun x hx => (setP_none (hn x hx)).symm
  · unfold settleP
    rw [List.findIdx?_eq_none_iff]
    intro x hx
    rw [h1] at hx
    rcases List.mem_append.1 hx with hx | hx
    · rw [h4 x hx]
    · rw [lost_none (hn x hx)]
/-- The next goal: met, or lost. -/
theorem SetTo.next {st : PSt} {k : Nat} {ms : List Mac} {i : Nat} {s : List UInt8} (h : SetTo st k ms) (hk : (goalsOf st.code)[k]? = some (i, s)) :
    ∃ x g m, st.code[i]? = some x ∧ x.goal = some g ∧ s = Lib.itoa g ∧ ms[i]? = some m ∧ m = x.m ∧
      (lostP st.labs st.code.length x = true → settleP st = some i) ∧
      (∀ p, placeP st.labs g = some p → p < st.code.length → SetTo st (k + 1) (ms.set i { m with n := (p : Int) })) := by
  obtain ⟨pre, post, h1, h2, h3, h4⟩ := h
  obtain ⟨hkl, hke⟩ := List.getElem?_eq_some_iff.1 hk
  rw [List.drop_eq_getElem_cons hkl, hke] at h2
  obtain ⟨mid, x, post', g, e1, e2, e3, e4, e5, e6⟩ := goals_next post _ _ _ _ h2.symm
  subst e1
  have hcode : st.code = (pre ++ mid) ++ x :: post' := by rw [h1, List.append_assoc]
  have hil : i = (pre ++ mid).length := by rw [List.length_append]; exact e4
  have hx : st.code[i]? = some x := by rw [hcode, hil]; simp
  have hms : ms = ((pre ++ mid).map (setP st.labs)) ++ x.m :: post'.map (fun x => x.m) := by
    rw [h3, List.map_append, List.map_append, List.map_cons, ← List.append_assoc]
    congr 2
    exact List.map_congr_left fun y hy => (setP_none (e2 y hy)).symm
  have hmi : ms[i]? = some x.m := by
    rw [hms, hil]
    have : (pre ++ mid).length = ((pre ++ mid).map (setP st.labs)).length := by rw [List.length_map]
    rw [this]
    simp
  have hfree : ∀ y ∈ pre ++ mid, lostP st.labs st.code.length y = false := fun y hy => by
    rcases List.mem_append.1 hy with hy | hy
    · exact h4 y hy
    · exact lost_none (e2 y hy)
  refine ⟨x, g, x.m, hx, e3, e5, hmi, rfl, fun hl => ?_, fun p hp hpl => ?_⟩
  · unfold settleP
    rw [List.findIdx?_eq_some_iff_getElem]
    have hi := (List.getElem?_eq_some_iff.1 hx)
    refine ⟨hi.1, by rw [hi.2]; exact hl, fun j hj => ?_⟩
    have hjl : j < (pre ++ mid).length := by omega
    have hj2 : st.code[j]'(by have := hi.1; omega) = (pre ++ mid)[j] := by
      have a1 : st.code[j]? = (pre ++ mid)[j]? := by rw [hcode, List.getElem?_append_left hjl]
      rw [List.getElem?_eq_getElem (by have := hi.1; omega), List.getElem?_eq_getElem hjl] at a1
      injection a1
    rw [hj2, hfree _ (List.getElem_mem hjl)]
    simp
  · have hset : ms.set i { x.m with n := (p : Int) } = ((pre ++ mid ++ [x]).map (setP st.labs)) ++ post'.map (fun x => x.m) := by
      rw [hms, hil]
      have : (pre ++ mid).length = ((pre ++ mid).map (setP st.labs)).length := by rw [List.length_map]
      rw [this, List.set_append_right _ _ (Nat.le_refl _), Nat.sub_self, List.set_cons_zero, show (pre ++ mid ++ [x]).map (setP st.labs) = (pre ++ mid).map (setP st.labs) ++ [setP st.labs x] from (by rw [List.map_append]; rfl), List.append_assoc]
      congr 1
      rw [List.singleton_append]
      congr 1
      unfold setP
      rw [e3]
      simp only
      rw [hp]
      rfl
    refine ⟨pre ++ mid ++ [x], post', by rw [hcode]; simp, ?_, hset, fun y hy => ?_⟩
    · rw [List.drop_add_one_eq_tail_drop, List.drop_eq_getElem_cons hkl, List.tail_cons, e6, hil]
      simp [Nat.add_assoc]
    · rcases List.mem_append.1 hy with hy | hy
      · exact hfree y hy
      · rw [List.mem_singleton] at hy
        subst hy
        unfold lostP
        rw [e3]
        simp only
        rw [hp]
        simp only [decide_eq_false_iff_not]
        omega
theorem cells_setN : ∀ (ms : List Mac) (k : Nat) (m : Mac) (n : Int), ms[k]? = some m → (cellsS ms).set (k * 5 + 4) (.int .i64 n) = cellsS (ms.set k { m with n := n })
  | [], k, m, n, h => by simp at h
  | m0 :: ms, 0, m, n, h => by
    simp only [List.getElem?_cons_zero, Option.some.injEq] at h
    subst h
    simp [cellsS, Mac.cells]
  | m0 :: ms, k + 1, m, n, h => by
    have ih := cells_setN ms k m n (by simpa using h)
    have key : ∀ (xs : List Value) (i : Nat) (u : Value), (m0.cells ++ xs).set (5 + i) u = m0.cells ++ xs.set i u := fun xs i u => by
      rw [List.set_append_right _ _ (by simp [Mac.cells])]
      congr 2
      simp [Mac.cells]
    rw [List.set_cons_succ]
    show (m0.cells ++ cellsS ms).set _ _ = m0.cells ++ cellsS _
    rw [show (k + 1) * 5 + 4 = 5 + (k * 5 + 4) by omega, key, ih]
section
variable {w : World} {base bx lb : Nat} {nm : List UInt8} {ms : List Mac} {labs : List (Int × Nat)} {gs ks : List (Nat × List UInt8)} {cv gv kv : Value}
/-- An instruction's number set. -/
theorem SecM.setN {cb c : Nat} (h : SecM w base bx nm ms labs gs ks (.slice (some ⟨cb, 0, none⟩) ms.length c) lb gv kv) {i : Nat} {m : Mac} (hm : ms[i]? = some m) (n : Int) :
    SecM (w.setCell ⟨cb, i * 5 + 4, none⟩ (.int .i64 n)) base bx nm (ms.set i { m with n := n }) labs gs ks (.slice (some ⟨cb, 0, none⟩) ms.length c) lb gv kv := by
  have hfar : ∀ k, k ≠ cb → (w.setCell ⟨cb, i * 5 + 4, none⟩ (.int .i64 n)).heap[k]? = w.heap[k]? := fun k hk => Below.heap_setCell w ⟨cb, i * 5 + 4, none⟩ _ k hk
  have hcode : OwnMacs (w.setCell ⟨cb, i * 5 + 4, none⟩ (.int .i64 n)) base (.slice (some ⟨cb, 0, none⟩) ms.length c) (ms.set i { m with n := n }) := by
    unfold OwnMacs
    rw [List.length_set, ← cells_setN ms i m n hm]
    exact (World.ownsRow.stored h.code (i * 5 + 4) _).1
  refine ⟨(hfar bx (fun e => ownBlk_ne h.code h.blk (by decide) (by rw [e]; rfl))).trans h.blk, hcode, h.map.stay (hfar lb (fun e => h.map.row h.code (by rw [e]; rfl))), own_at h.goals fun k e => hfar k fun e' => own_two h.goals h.code (by decide) k e (by rw [e']; rfl), own_at h.calls fun k e => hfar k fun e' => own_two h.calls h.code (by decide) k e (by rw [e']; rfl), h.apart, h.ge⟩
end
end Go.Proofs.YtdldochhondifaaGreatDoor
namespace Go.Proofs.YtdldochhondifaaGreatDoor
open Go.RowKit
attribute [local go_sem] Oper.semAt_some

/-- What settle leaves. -/
def SettlePost (w : World) (base bx : Nat) (nm : List UInt8) (st : PSt) (cv : Value) (lb : Nat) (gv kv : Value) (e : Ending) (w' : World) : Prop :=
  OutS (InSec bx lb cv gv kv) w w' ∧ (∀ i, settleP st = some i → e = .returned (.int .i64 (i : Int))) ∧
    (settleP st = none → e = .returned (.int .i64 (-1)) ∧ SecM w' base bx nm (settled st) st.labs (goalsOf st.code) (callsOf st.code) cv lb gv kv)
theorem macs_form {w : World} {base : Nat} {v : Value} {ms : List Mac} {i : Nat} {m : Mac} (h : OwnMacs w base v ms) (hm : ms[i]? = some m) : ∃ b c, v = .slice (some ⟨b, 0, none⟩) ms.length c ∧ (∃ u, w.cell? ⟨b, i * 5 + 4, none⟩ = some u) ∧ w.frozen? ⟨b, i * 5 + 4, none⟩ = false := by
  have hlt := (List.getElem?_eq_some_iff.1 hm).1
  rcases h.2 with ⟨_, h0⟩ | ⟨g, cap, cur, e1, hg, hh, _⟩
  · omega
  · have hc := World.ownsRow.cells h (g := g) (by rw [e1]; rfl)
    have hadd : ∀ j, (⟨g, 0, none⟩ : Addr).add j = ⟨g, j, none⟩ := fun j => by unfold Addr.add; split <;> simp_all
    have h4 := cellsS_at ms i m hm 4 (by omega)
    have := hc (i * 5 + 4) (.int .i64 m.n) (h4.trans rfl)
    rw [hadd] at this
    exact ⟨g, cap, e1, ⟨_, this⟩, by simp [World.frozen?, hh]⟩
theorem lit_inj {a b : Int} (h : (DataW.lit (.int .i64 a) : DataW Unit) = .lit (.int .i64 b)) : a = b := by
  injection h with h
  injection h
section
variable {base bx lb : Nat} {nm : List UInt8} {st : PSt} {cv gv kv : Value}
set_option maxRecDepth 100000 in
set_option maxHeartbeats 8000000 in
theorem settle_any (w : World) (hS : Std w) (hM : Sec w base bx nm st cv lb gv kv) (hbase : base ≤ w.heap.size) (hb10 : 10 ≤ base) (hl : st.code.length ≤ 1000000) (hok : ∀ x ∈ st.code, InsOk x) :
    Calls Tryz.prog 26 #[.pointer (some ⟨bx, 0, none⟩)] w (SettlePost w base bx nm st cv lb gv kv) := by
  have HM := Lib.hid hM
  have HS := Lib.hid hS
  have HB := Lib.hid hbase
  have Hok := Lib.hid hok
  obtain ⟨gA, gc, hgv⟩ := row_form hM.goals
  obtain ⟨cA, cc, hcv⟩ := row_form hM.code
  subst hgv hcv
  obtain ⟨gn, hgn⟩ : ∃ gn, (goalsOf st.code).length = gn := ⟨_, rfl⟩
  obtain ⟨cn, hcn⟩ : ∃ cn, (st.code.map fun x => x.m).length = cn := ⟨_, rfl⟩
  have hcl : st.code.length = cn := by rw [← hcn, List.length_map]
  have Hgn := Lib.hid hgn
  have Hcl := Lib.hid hcl
  have hgm : gn ≤ 1000000 := by rw [← hgn]; exact Nat.le_trans (goals_len _) hl
  have hcm : cn ≤ 1000000 := by rw [← hcl]; exact hl
  have HM0 : Hid (SecM w base bx nm (st.code.map fun x => x.m) st.labs (goalsOf st.code) (callsOf st.code) (.slice cA cn cc) lb (.slice gA gn gc) kv) := Lib.hid (by rw [hgn, hcn] at hM; exact hM)
  rw [hgn, hcn] at HM ⊢
  have m3 := HM0.out.blk.cell 3
  have H0 := Lib.hid (SetTo.zero st)
  clear hM hS hbase hok hgn hcn hcl hl HM
  go_enter Tryz.func26, Tryz.ntmps26
  go_wp2_with fail
  clear m3
  go_loopg [14] gn (fun gk iv wx => ∃ (k : Nat) (ms : List Mac), iv = .int .i64 (k : Int) ∧ k + gk = gn ∧ Hid (SetTo st k ms) ∧ Hid (SecM wx base bx nm ms st.labs (goalsOf st.code) (callsOf st.code) (.slice cA cn cc) lb (.slice gA gn gc) kv) ∧ Hid (OutS (InSec bx lb (.slice cA cn cc) (.slice gA gn gc) kv) w wx))
  case atStart => exact ⟨0, _, rfl, by omega, H0, HM0, Lib.hid (OutS.refl _ _)⟩
  case round =>
    obtain ⟨k, ms, rfl, hk, HT, HMk, HOk⟩ := hrel
    clear H0
    rcases gk with _ | gk
    · obtain rfl : k = gn := by omega
      have hd := HT.out.done (by rw [Hgn.out]; exact Nat.le_refl _)
      have HD := Lib.hid hd
      clear hd
      go_wp2_with fail
      go_ret
      refine ⟨HOk.out, fun i h => (by rw [HD.out.2] at h; cases h), fun _ => ⟨rfl, ?_⟩⟩
      rw [← HD.out.1]
      exact HMk.out
    · have hkg : k < gn := by omega
      obtain ⟨⟨i, s⟩, hg⟩ : ∃ g, (goalsOf st.code)[k]? = some g := ⟨(goalsOf st.code)[k]'(by rw [Hgn.out]; exact hkg), List.getElem?_eq_getElem _⟩
      obtain ⟨x, g, m, e1, e2, e3, e4, _, e6, e7⟩ := HT.out.next hg
      obtain ⟨gb, gc2, ge, hgb, g0, g1⟩ := HMk.out.goals.at_ hg
      have ge1 : gA = some ⟨gb, 0, none⟩ := (Value.slice.inj ge).1
      subst ge1
      have hgi := (Hok.out x (List.mem_of_getElem? e1)).2 g e2
      have hil : i < cn := by rw [← Hcl.out]; exact (List.getElem?_eq_some_iff.1 e1).1
      obtain ⟨cb, cc2, hce, hcu, hcf⟩ := macs_form HMk.out.code e4
      have ce1 : cA = some ⟨cb, 0, none⟩ := (Value.slice.inj hce).1
      subst ce1
      have hmsl : ms.length = cn := by rw [← Hcl.out]; exact HT.out.len
      have HBk : Hid (Below base w wr) := Lib.hid (HOk.out.below HB.out fun j hj => HM0.out.low hj)
      have HSk : Hid (Std wr) := Lib.hid (HS.out.below HBk.out hb10 (Nat.le_trans HB.out HOk.out.size))
      have k0 : (0 : Int) ≤ (k : Int) := Int.natCast_nonneg k
      have k1 : (k : Int) < (gn : Int) := by omega
      have HB0 : Hid (Below wr.heap.size wr (wr.alloc (.cells #[.int .i64 (i : Int), .string (mkS s)] 122))) := Lib.hid ((Below.refl _ _).alloc (Nat.le_refl _) _)
      have HX0 : Hid (Blk (wr.alloc (.cells #[.int .i64 (i : Int), .string (mkS s)] 122)) wr.heap.size 122 #[.int .i64 (i : Int), .string (mkS s)]) := Lib.hid (Blk.new _ _ _)
      have hsl : s.length ≤ 20 := by rw [e3]; exact itoa_len hgi.1
      have HAt : Hid (Lib.atoiAll s = .ok g) := Lib.hid (by rw [e3]; exact atoi_itoa hgi.1)
      have HAa := Lib.hid (Atoi_any s (by omega) (wr.alloc (.cells #[.int .i64 (i : Int), .string (mkS s)] 122)) (HSk.out.own HB0.out).errs)
      have Hg := Lib.hid hg
      have E4 := Lib.hid e4
      have E6 := Lib.hid e6
      have E7 := Lib.hid e7
      have E2 := Lib.hid e2
      have Hgi := Lib.hid hgi
      have Hms := Lib.hid hmsl
      clear hg e1 e2 e3 e4 e6 e7 ge hgi hce hcu hcf hmsl hgb
      go_upto_region 4 with fail
      generalize wr.alloc (.cells #[.int .i64 (i : Int), .string (mkS s)] 122) = W0 at *
      generalize hxb : wr.heap.size = xb at *
      have Hxb := Lib.hid hxb
      clear hxb
      have x0 := HX0.out.cell 0
      have x1 := HX0.out.cell 1
      clear g0 g1
      go_wp2_with fail
      refine HAa.out.mono ?_
      rintro e W1 ⟨hpost, hb⟩
      rcases hpost with ⟨v, hv, hvI, rfl⟩ | ⟨hv, _⟩
      rotate_left
      · exact absurd HAt.out (hv g)
      rw [HAt.out] at hv
      injection hv with hv
      subst hv
      have hbw : Below wr.heap.size wr W1 := by
        have h := HB0.out
        rw [← Hxb.out] at h
        exact h.trans (hb.mono h.size)
      have HBw := Lib.hid hbw
      have HM1 := Lib.hid (HMk.out.below hbw)
      have HX1 := Lib.hid (HX0.out.below hb HX0.out.lt)
      obtain ⟨D, dn, hown, hdn, hD⟩ := HM1.out.map
      have hkey := intKey (wf_of Hgi.out.1)
      have hat := (hD g (wf_of Hgi.out.1)).1
      have hak := (hD g (wf_of Hgi.out.1)).2
      have m2 := HM1.out.blk.cell 2
      have m1 := HM1.out.blk.cell 1
      have y0 := HX1.out.cell 0
      have HOwn := Lib.hid hown
      have HOr : Hid (OutS (InSec bx lb (.slice (some ⟨cb, 0, none⟩) cn cc) (.slice (some ⟨gb, 0, none⟩) gn gc) kv) w W1) := Lib.hid (HOk.out.trans (outS_of (S := fun _ => False) HBw.out) fun _ _ h => h.elim)
      clear hown hdn hD hb hbw HB0 HX0 HAa x0 x1 hvI
      cases hp : placeP st.labs g with
      | none =>
        rw [hp] at hat hak
        have HAk := Lib.hid hak
        have HL : Hid (settleP st = some i) := Lib.hid (E6.out (by unfold lostP; rw [E2.out]; simp only; rw [hp]))
        have hat' : Maps.has D (.int .i64 g) = false := hat
        clear hat hak hp
        go_wp2_with (at_lookup; refine wpList_lookup_own_ok_int _ rfl _ _ 53 rfl 3 3 .i64 intKeyed Tryz.underlying53 Tryz.underlying3 (zeroInt _) lb dn D rfl HOwn.out _ _ rfl hkey ?_; intro c hat2 hwc; obtain rfl := lit_inj (HAk.out.symm.trans hat2); clear hat2 hwc)
        go_ret
        exact ⟨HOr.out, fun j h => (by rw [HL.out] at h; cases h; rfl), fun h => (by rw [HL.out] at h; cases h)⟩
      | some p =>
        rw [hp] at hat hak
        have HAk := Lib.hid hak
        have hat' : Maps.has D (.int .i64 g) = true := hat
        by_cases hpl : p < cn
        · have HN2 : Hid (SetTo st (k + 1) (ms.set i { m with n := (p : Int) })) := Lib.hid (E7.out p hp (by rw [Hcl.out]; exact hpl))
          have hpl' : ¬ (p : Int) ≥ (cn : Int) := by omega
          have hpl2 : ¬ (cn : Int) ≤ (p : Int) := by omega
          have i0 : (0 : Int) ≤ (i : Int) := Int.natCast_nonneg i
          have i1 : (i : Int) < (cn : Int) := by omega
          obtain ⟨b', _, hce, ⟨u, hcu⟩, hcf⟩ := macs_form HM1.out.code E4.out
          have hbe : cb = b' := by
            have h := (Value.slice.inj hce).1
            injection h with h
            injection h
          subst hbe
          clear hce
          have c4 := hcu
          have HM2 : Hid (SecM (W1.drew.setCell ⟨cb, i * 5 + 4, none⟩ (.int .i64 (p : Int))) base bx nm (ms.set i { m with n := (p : Int) }) st.labs (goalsOf st.code) (callsOf st.code) (.slice (some ⟨cb, 0, none⟩) cn cc) lb (.slice (some ⟨gb, 0, none⟩) gn gc) kv) := Lib.hid (by
            have h1 : SecM W1.drew base bx nm ms st.labs (goalsOf st.code) (callsOf st.code) (.slice (some ⟨cb, 0, none⟩) ms.length cc) lb (.slice (some ⟨gb, 0, none⟩) gn gc) kv := by rw [Hms.out]; exact HM1.out.stay fun _ _ => rfl
            have h2 := h1.setN E4.out (p : Int)
            rw [Hms.out] at h2
            exact h2)
          have HO2 : Hid (OutS (InSec bx lb (.slice (some ⟨cb, 0, none⟩) cn cc) (.slice (some ⟨gb, 0, none⟩) gn gc) kv) w (W1.drew.setCell ⟨cb, i * 5 + 4, none⟩ (.int .i64 (p : Int)))) := Lib.hid (HOr.out.trans (OutS.drewn (outS_set (S := fun j => j = cb) W1.drew cb (i * 5 + 4) _ rfl)) fun j _ h => .inr (.inr (.inl (by rw [h]; rfl))))
          clear hat hak hp hcu
          go_wp2_with (at_lookup; refine wpList_lookup_own_ok_int _ rfl _ _ 53 rfl 3 3 .i64 intKeyed Tryz.underlying53 Tryz.underlying3 (zeroInt _) lb dn D rfl HOwn.out _ _ rfl hkey ?_; intro c hat2 hwc; obtain rfl := lit_inj (HAk.out.symm.trans hat2); clear hat2 hwc)
          go_still_tail 9, (by kernel_rfl)
          go_wp2_with fail
          go_roundg gk
          case measure => omega
          case rel => exact ⟨k + 1, _, by go_num, by omega, HN2, HM2, HO2⟩
        · have HL : Hid (settleP st = some i) := Lib.hid (E6.out (by unfold lostP; rw [E2.out]; simp only; rw [hp]; simp only [decide_eq_true_eq]; rw [Hcl.out]; omega))
          have hpl' : (p : Int) ≥ (cn : Int) := by omega
          have hpl2 : (cn : Int) ≤ (p : Int) := by omega
          clear hat hak hp
          go_wp2_with (at_lookup; refine wpList_lookup_own_ok_int _ rfl _ _ 53 rfl 3 3 .i64 intKeyed Tryz.underlying53 Tryz.underlying3 (zeroInt _) lb dn D rfl HOwn.out _ _ rfl hkey ?_; intro c hat2 hwc; obtain rfl := lit_inj (HAk.out.symm.trans hat2); clear hat2 hwc)
          go_ret
          exact ⟨HOr.out, fun j h => (by rw [HL.out] at h; cases h; rfl), fun h => (by rw [HL.out] at h; cases h)⟩
end
end Go.Proofs.YtdldochhondifaaGreatDoor
namespace Go.Proofs.YtdldochhondifaaGreatDoor
open Go.RowKit

theorem regI_i64 {s : List UInt8} {n : Int} (h : regI s = some n) : I64 n := by
  cases s with
  | nil => cases h
  | cons c r =>
    by_cases hc : c = 114
    · subst hc
      rw [regI_hit] at h
      cases hn : numI r with
      | none => rw [hn] at h; cases h
      | some m =>
        rw [hn] at h
        simp only at h
        split at h
        · cases h
          exact (numI_some.1 hn).1
        · cases h
    · rw [regI_miss (by simpa using hc)] at h
      cases h
theorem digI_pos {s : List UInt8} {k : Nat} {n : Int} (h : digI s k = some n) : I64 n ∧ 0 ≤ n := by
  refine ⟨digI_i64 h, ?_⟩
  unfold digI at h
  split at h
  · cases hn : numI s with
    | none => rw [hn] at h; cases h
    | some m =>
      rw [hn] at h
      simp only at h
      split at h
      · cases h
        assumption
      · cases h
  · cases h
theorem labI_pos {s : List UInt8} {n : Int} (h : labI s = some n) : I64 n ∧ 0 ≤ n := by
  cases s with
  | nil => cases h
  | cons c r =>
    by_cases hc : c = 76
    · subst hc
      rw [labI_hit] at h
      exact digI_pos h
    · rw [labI_miss (by simpa using hc)] at h
      cases h
theorem field_ok {nb : Bool} {x y : Ins} {c : UInt8} {s : List UInt8} (hx : InsOk x) (h : fieldP nb x c s = some y) : InsOk y := by
  obtain ⟨⟨h0, h1, h2, h3, h4⟩, h5⟩ := hx
  unfold fieldP at h
  split at h
  · obtain ⟨n, hn, rfl⟩ := Option.map_eq_some_iff.1 h
    exact ⟨⟨h0, regI_i64 hn, h2, h3, h4⟩, h5⟩
  · split at h
    · obtain ⟨n, hn, rfl⟩ := Option.map_eq_some_iff.1 h
      exact ⟨⟨h0, h1, regI_i64 hn, h3, h4⟩, h5⟩
    · split at h
      · obtain ⟨n, hn, rfl⟩ := Option.map_eq_some_iff.1 h
        exact ⟨⟨h0, h1, h2, regI_i64 hn, h4⟩, h5⟩
      · split at h
        · obtain ⟨n, hn, rfl⟩ := Option.map_eq_some_iff.1 h
          exact ⟨⟨h0, h1, h2, h3, h4⟩, fun g hg => by cases hg; exact labI_pos hn⟩
        · split at h
          · split at h
            · cases h
              exact ⟨⟨h0, h1, h2, h3, h4⟩, h5⟩
            · cases h
          · obtain ⟨n, hn, rfl⟩ := Option.map_eq_some_iff.1 h
            exact ⟨⟨h0, h1, h2, h3, (numI_some.1 hn).1⟩, h5⟩
theorem fields_ok {nb : Bool} : ∀ (cs : List UInt8) (ss : List (List UInt8)) (x y : Ins), InsOk x → fieldsP nb x cs ss = some y → InsOk y
  | [], _, x, y, hx, h => by rw [fieldsP] at h; cases h; exact hx; intro _ _ _ _ e; cases e
  | c :: cs, [], x, y, hx, h => by rw [fieldsP] at h; cases h; exact hx; intro _ _ _ _ _ e; cases e
  | c :: cs, s :: ss, x, y, hx, h => by
    rw [fieldsP] at h
    obtain ⟨z, hz, h2⟩ := Option.bind_eq_some_iff.1 h
    exact fields_ok cs ss z y (field_ok hx hz) h2
theorem ins0_ok {op : Int} (h : isOp op = true) : InsOk (ins0 op) := by
  have := (isOp_iff op).1 h
  exact ⟨⟨⟨by simp only [ins0]; omega, by simp only [ins0]; omega⟩, (show I64 0 from ⟨by decide, by decide⟩), (show I64 0 from ⟨by decide, by decide⟩), (show I64 0 from ⟨by decide, by decide⟩), (show I64 0 from ⟨by decide, by decide⟩)⟩, fun g hg => by cases hg⟩
/-- What has been read after so many lines. -/
def StOk (st : PSt) (n : Nat) : Prop := (∀ x ∈ st.code, InsOk x) ∧ st.code.length ≤ n ∧ st.labs.length ≤ n
theorem line_ok {nb : Bool} {st : PSt} {s : List UInt8} {n : Nat} (h : StOk st n) : StOk (lineP nb st s).2 (n + 1) := by
  obtain ⟨h1, h2, h3⟩ := h
  have hsame : StOk st (n + 1) := ⟨h1, by omega, by omega⟩
  unfold lineP
  split
  · split
    · exact hsame
    · split
      · exact hsame
      · exact ⟨h1, by simp only; omega, by simp only [List.length_append, List.length_cons, List.length_nil]; omega⟩
  · split
    · exact hsame
    · rename_i op hop
      split
      · exact hsame
      · rename_i x hx
        refine ⟨fun y hy => ?_, by simp only [List.length_append, List.length_cons, List.length_nil]; omega, by simp only; omega⟩
        rcases List.mem_append.1 hy with hy | hy
        · exact h1 y hy
        · rw [List.mem_singleton] at hy
          subst hy
          exact fields_ok _ _ _ _ (ins0_ok (fit_range hop).1) hx
def StepsTo (nb : Bool) (L : List (List UInt8)) (i : Nat) (st : PSt) : Prop := stepsP nb 0 ⟨[], []⟩ L = stepsP nb i st (L.drop i) ∧ StOk st i
theorem StepsTo.zero (nb : Bool) (L : List (List UInt8)) : StepsTo nb L 0 ⟨[], []⟩ := ⟨rfl, fun x h => by simp at h, Nat.le_refl _, Nat.le_refl _⟩
theorem StepsTo.done {nb : Bool} {L : List (List UInt8)} {i : Nat} {st : PSt} (h : StepsTo nb L i st) (hi : L.length ≤ i) : stepsP nb 0 ⟨[], []⟩ L = ((0, 0), st) := by
  rw [h.1, List.drop_eq_nil_of_le hi]
  rfl
theorem StepsTo.next {nb : Bool} {L : List (List UInt8)} {i : Nat} {st : PSt} {l : List UInt8} (h : StepsTo nb L i st) (hl : L[i]? = some l) :
    (l = [] → StepsTo nb L (i + 1) st) ∧ (l ≠ [] → (lineP nb st l).1 = 0 → StepsTo nb L (i + 1) (lineP nb st l).2) ∧ (l ≠ [] → (lineP nb st l).1 ≠ 0 → stepsP nb 0 ⟨[], []⟩ L = (((lineP nb st l).1, i), st)) := by
  obtain ⟨h1, h2⟩ := h
  rw [drop_at hl, stepsP] at h1
  refine ⟨fun e => ?_, fun e e0 => ?_, fun e e0 => ?_⟩
  · rw [if_pos e] at h1
    exact ⟨h1, h2.1, by have := h2.2.1; omega, by have := h2.2.2; omega⟩
  · rw [if_neg e, if_pos e0] at h1
    exact ⟨h1, line_ok h2⟩
  · rw [if_neg e, if_neg e0] at h1
    exact h1
theorem settled_len (st : PSt) : (settled st).length = st.code.length := List.length_map _
end Go.Proofs.YtdldochhondifaaGreatDoor
