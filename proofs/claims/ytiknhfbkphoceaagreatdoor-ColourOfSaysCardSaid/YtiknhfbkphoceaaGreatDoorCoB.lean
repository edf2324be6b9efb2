/-
  Several texts in one (CoA CoB): what each proves stands at its theorems.
  Conditions: as the theorems say.
-/
import Derived.Test.YtiknhfbkphoceaaGreatDoorSwC
namespace Go.Proofs.YtiknhfbkphoceaaGreatDoor
open Go.RowKit

set_option maxRecDepth 100000 in
set_option maxHeartbeats 1000000 in
theorem IndexM_any (F : FuncId) (cap : Array Value) (v : Value) (gs : List Int) (p : Int → Bool) (w : World) (hv : IntsAt w w.heap.size v gs) (hc : ∀ (a : Array Value) (W : World), (callFunc F a).run Tryz.prog W = .ok (.enter F a) W)
    (HF : ∀ (s : Int) (W : World), s ∈ gs → Below w.heap.size w W → Calls Tryz.prog F (#[.int .i64 s] ++ cap) W fun e W' => e = .returned (.bool (p s)) ∧ Below W.heap.size W W') :
    Calls Tryz.prog 82 #[v, .func (.func F) #[] cap] w fun e w' => e = .returned (.int .i64 (firstS p gs)) ∧ Below w.heap.size w w' := by
  have HV := Lib.hid hv
  have Hf := Lib.hid HF
  obtain ⟨A, c, hvv, h1, h2, _⟩ := hv
  subst hvv
  obtain ⟨len, hlen⟩ : ∃ len, gs.length = len := ⟨_, rfl⟩
  have HL := Lib.hid hlen
  rw [hlen] at h1 ⊢
  have h63 : len ≤ 9223372036854775807 := by omega
  clear hlen HF h2
  generalize hres : firstS p gs = res at *
  have Hres := Lib.hid hres
  clear hres
  go_enter Tryz.func82, Tryz.ntmps82
  go_wp2_with fail
  go_loopw [8] (fun i wr => ∃ k : Nat, k ≤ len ∧ i = .int .i64 k ∧ Hid (∀ (j : Nat) (g : Int), j < k → gs[j]? = some g → p g = false) ∧ Hid (Below w.heap.size w wr)) (fun i _ => len - (intOf i).toNat)
  case atStart => exact ⟨0, Nat.zero_le _, rfl, Lib.hid (fun j _ h => absurd h (Nat.not_lt_zero j)), Lib.hid (Below.refl _ _)⟩
  case round =>
    obtain ⟨k, hk, rfl, HN, HB⟩ := hrel
    by_cases hlt : k < len
    · obtain ⟨A', c', e, _, _, h3⟩ := HV.out
      obtain ⟨b, off, hA, hbw, hcell⟩ := h3 (by rw [HL.out]; omega)
      cases e
      subst hA
      obtain ⟨gn, hg⟩ : ∃ g, gs[k]? = some g := ⟨gs[k]'(by rw [HL.out]; exact hlt), List.getElem?_eq_getElem _⟩
      have c0 := (bcell HB.out hbw).trans (hcell k _ hg)
      have Hg := Lib.hid hg
      clear hcell h3 hg
      go_wp2_with fail
      refine (Hf.out gn _ (List.mem_of_getElem? Hg.out) HB.out).mono ?_
      rintro e w1 ⟨rfl, hb1⟩
      have HB1 := Lib.hid (HB.out.trans (hb1.mono HB.out.size))
      clear hb1
      cases hp : p gn
      · have Hp := Lib.hid hp
        clear hp
        go_wp2_with fail
        go_roundw
        case rel =>
          refine ⟨k + 1, by omega, by go_num, Lib.hid fun j g hj hg => ?_, HB1⟩
          rcases Nat.lt_or_ge j k with h | h
          · exact HN.out j g h hg
          · obtain rfl : j = k := by omega
            rw [Hg.out] at hg
            cases hg
            exact Hp.out
        case measure => simp [intOf]; omega
      · have HR := Lib.hid (firstS_hit (p := p) Hg.out hp fun j g hj hg => HN.out j g hj hg)
        clear hp
        go_wp2_with fail
        go_ret
        exact ⟨ret_int (HR.out.symm.trans Hres.out), HB1.out⟩
    · have HR := Lib.hid (firstS_none (p := p) (l := gs) fun j g hg => HN.out j g (by have := (List.getElem?_eq_some_iff.1 hg).1; have := HL.out; omega) hg)
      go_wp2_with fail
      go_ret
      exact ⟨ret_int (HR.out.symm.trans Hres.out), HB.out⟩
set_option maxRecDepth 100000 in
set_option maxHeartbeats 1000000 in
theorem ContainsM_any (F : FuncId) (cap : Array Value) (v : Value) (gs : List Int) (p : Int → Bool) (w : World) (hv : IntsAt w w.heap.size v gs) (hc : ∀ (a : Array Value) (W : World), (callFunc F a).run Tryz.prog W = .ok (.enter F a) W)
    (HF : ∀ (s : Int) (W : World), s ∈ gs → Below w.heap.size w W → Calls Tryz.prog F (#[.int .i64 s] ++ cap) W fun e W' => e = .returned (.bool (p s)) ∧ Below W.heap.size W W') :
    Calls Tryz.prog 62 #[v, .func (.func F) #[] cap] w fun e w' => e = .returned (.bool (gs.any p)) ∧ Below w.heap.size w w' := by
  have HC := Lib.hid (IndexM_any F cap v gs p w hv hc HF)
  have HA := Lib.hid (firstS_any p gs)
  clear hv hc HF
  generalize firstS p gs = r at *
  generalize gs.any p = bq at *
  go_enter Tryz.func62, Tryz.ntmps62
  go_wp2_with fail
  refine HC.out.mono ?_
  rintro e w1 ⟨rfl, hb1⟩
  have HB1 := Lib.hid hb1
  clear hb1
  go_wp2_with fail
  go_ret
  exact ⟨ret_bool HA.out, HB1.out⟩

theorem any_has (xs : List Int) (x : Int) : (xs.any fun y => x == y) = hasN xs x := by
  unfold hasN
  congr 1
  funext y
  rw [Bool.eq_iff_iff, beq_iff_eq, beq_iff_eq]
  exact eq_comm
set_option maxRecDepth 100000 in
set_option maxHeartbeats 1000000 in
theorem IdxI_any (v : Value) (xs : List Int) (x : Int) (w : World) (hv : IntsAt w w.heap.size v xs) :
    Calls Tryz.prog 36 #[v, .int .i64 x] w fun e w' => e = .returned (.int .i64 (firstS (fun y => x == y) xs)) ∧ w = w' := by
  obtain ⟨A, c, rfl, h1, h2, h3⟩ := hv
  obtain ⟨l, hl⟩ : ∃ l, xs.length = l := ⟨_, rfl⟩
  rw [hl] at h1 h3 ⊢
  have H3 := Lib.hid h3
  have Hl := Lib.hid hl
  clear h3 hl
  generalize hres : firstS (fun y => x == y) xs = res
  have Hres := Lib.hid hres
  clear hres
  go_enter Tryz.func36, Tryz.ntmps36
  go_upto_region 2 with fail
  go_loopg [8] l (fun gk i wr => ∃ j : Nat, j + gk = l ∧ i = .int .i64 j ∧ wr = w ∧ Hid (∀ (q : Nat) (y : Int), q < j → xs[q]? = some y → (x == y) = false))
  case atStart => exact ⟨0, by omega, rfl, rfl, Lib.hid (fun q y h => absurd h (Nat.not_lt_zero q))⟩
  case round =>
    obtain ⟨j, hj, rfl, rfl, HN⟩ := hrel
    rcases gk with _ | mk
    · have hlt : ¬ (j : Int) < (l : Int) := by omega
      have HR := Lib.hid (firstS_none (p := fun y => x == y) (l := xs) fun q y hy => HN.out q y (by have := (List.getElem?_eq_some_iff.1 hy).1; have := Hl.out; omega) hy)
      go_wp2_with fail
      go_ret
      exact ⟨ret_int (HR.out.symm.trans Hres.out), rfl⟩
    · have hlt : (j : Int) < (l : Int) := by omega
      have hj0 : (0 : Int) ≤ (j : Int) := Int.natCast_nonneg j
      obtain ⟨b, off, rfl, hb, hc⟩ := H3.out (by omega)
      obtain ⟨y, hy⟩ : ∃ y, xs[j]? = some y := ⟨xs[j]'(by rw [Hl.out]; omega), List.getElem?_eq_getElem _⟩
      have hc := hc j y hy
      have Hy := Lib.hid hy
      clear hy
      by_cases he : x = y
      · have HR := Lib.hid (firstS_hit (p := fun y => x == y) Hy.out (by simpa using he) HN.out)
        have heb : (x == y) = true := by simpa using he
        clear he
        go_wp2_with fail
        go_ret
        exact ⟨ret_int (HR.out.symm.trans Hres.out), rfl⟩
      · have heb : (x == y) = false := by simpa using he
        have Heb := Lib.hid heb
        clear he
        go_wp2_with fail
        go_roundg mk
        case measure => omega
        case rel => exact ⟨j + 1, by omega, by go_num, rfl, Lib.hid (fun q z hq hz => by
          rcases Nat.lt_or_ge q j with h | h
          · exact HN.out q z h hz
          · obtain rfl : q = j := by omega
            rw [Hy.out] at hz
            cases hz
            exact Heb.out)⟩
theorem HasI_any (v : Value) (xs : List Int) (x : Int) (w : World) (hv : IntsAt w w.heap.size v xs) :
    Calls Tryz.prog 14 #[v, .int .i64 x] w fun e w' => e = .returned (.bool (hasN xs x)) ∧ w = w' := by
  have HI := Lib.hid (IdxI_any v xs x w hv)
  have HA : Hid (decide (0 ≤ firstS (fun y => x == y) xs) = hasN xs x) := Lib.hid (by rw [firstS_any, any_has])
  clear hv
  generalize firstS (fun y => x == y) xs = r at *
  generalize hasN xs x = bq at *
  go_enter Tryz.func14, Tryz.ntmps14
  go_wp2_with fail
  refine HI.out.mono ?_
  rintro e w1 ⟨rfl, rfl⟩
  go_wp2_with fail
  go_ret
  exact ⟨ret_bool HA.out, rfl⟩
/-- Places that clash: has a register that clashes with another one this place? -/
def takenB (row : List Int) (ps : List Int) (place : Int) : Bool := row.any fun o => ps.getD o.toNat 0 == place
/-- The painter in block bp, its places in block gp. -/
structure PaintAt (W : World) (bp gp : Nat) (f : FunU) (bv xv av gv : Value) (rows : List (List Int)) (acr giv ps : List Int) : Prop where
  blk : Blk W bp 46 #[.string f.name, .int .i64 f.params, .int .i64 f.regs, bv, xv, av, gv, .slice (some ⟨gp, 0, none⟩) ps.length ps.length]
  blks : BlksAt W W.heap.size bv f.blocks
  rows : RowsAt W W.heap.size xv rows
  acr : IntsAt W W.heap.size av acr
  giv : IntsAt W W.heap.size gv giv
  pl : Blk W gp 3 (intsC ps)
theorem PaintAt.below {W W' : World} {bp gp : Nat} {f : FunU} {bv xv av gv : Value} {rows : List (List Int)} {acr giv ps : List Int} (h : PaintAt W bp gp f bv xv av gv rows acr giv ps) (hb : Below W.heap.size W W') : PaintAt W' bp gp f bv xv av gv rows acr giv ps :=
  ⟨h.blk.below hb h.blk.lt, h.blks.move hb.size (kept_of hb (Nat.le_refl _)), h.rows.move hb.size (kept_of hb (Nat.le_refl _)), h.acr.move hb.size (kept_of hb (Nat.le_refl _)), h.giv.move hb.size (kept_of hb (Nat.le_refl _)), h.pl.below hb h.pl.lt⟩
theorem RowsAt.at_ {w : World} {B : Nat} {A : Option Addr} {n c : Nat} {xss : List (List Int)} (h : RowsAt w B (.slice A n c) xss) {r : Nat} (hr : r < n) : xss.length = n ∧ ∃ b off rv xs, A = some ⟨b, off, none⟩ ∧ b < B ∧ xss[r]? = some xs ∧ w.cell? ⟨b, off + r, none⟩ = some rv ∧ IntsAt w B rv xs := by
  obtain ⟨A', c', e, h1, h2, h3⟩ := h
  injection e with e1 e2 e3
  subst e1
  obtain ⟨b, off, e4, e5, e6⟩ := h3 (by omega)
  obtain ⟨xs, hx⟩ : ∃ xs, xss[r]? = some xs := ⟨_, List.getElem?_eq_getElem (by omega)⟩
  obtain ⟨rv, hc, hi⟩ := e6 r xs hx
  exact ⟨e2.symm, b, off, rv, xs, e4, e5, hx, hc, hi⟩
theorem RowsAt.form {w : World} {B : Nat} {v : Value} {xss : List (List Int)} (h : RowsAt w B v xss) : ∃ A c, v = .slice A xss.length c ∧ xss.length ≤ c ∧ c ≤ 9223372036854775807 := by
  obtain ⟨A, c, e, h1, h2, _⟩ := h
  exact ⟨A, c, e, h1, h2⟩
set_option maxRecDepth 100000 in
set_option maxHeartbeats 1000000 in
theorem TakenDo_any (bp gp gb gq : Nat) (f : FunU) (bv xv av gv : Value) (rows : List (List Int)) (acr giv ps : List Int) (place : Int) (o : Int) (W : World) (hP : PaintAt W bp gp f bv xv av gv rows acr giv ps) (hb : Blk W gb 40 #[.pointer (some ⟨bp, 0, none⟩)]) (hq : Blk W gq 3 #[.int .i64 place])
    (ho : 0 ≤ o ∧ o < (ps.length : Int)) (hl : ps.length ≤ 1000) :
    Calls Tryz.prog 63 (#[.int .i64 o] ++ #[.pointer (some ⟨gb, 0, none⟩), .pointer (some ⟨gq, 0, none⟩)]) W fun e W' => e = .returned (.bool (ps.getD o.toNat 0 == place)) ∧ Below W.heap.size W W' := by
  obtain ⟨n, rfl⟩ : ∃ n : Nat, o = (n : Int) := ⟨o.toNat, by omega⟩
  obtain ⟨l, hlen⟩ : ∃ l, ps.length = l := ⟨_, rfl⟩
  have hn1 := ho.2
  have hn0 := ho.1
  obtain ⟨x, hx⟩ : ∃ x, ps[n]? = some x := ⟨_, List.getElem?_eq_getElem (by omega)⟩
  have hxd : ps.getD n 0 = x := by rw [List.getD_eq_getElem?_getD, hx]; rfl
  have b0 := hb.cell 0
  have q0 := hq.cell 0
  have p7 := hP.blk.cell 7
  have c0 := (hP.pl.cell n).trans (intsC_at hx)
  rw [hlen] at p7 hn1
  rw [Int.toNat_natCast, hxd]
  have hl2 : l ≤ 1000 := by omega
  simp only [List.append_toArray, List.cons_append, List.nil_append]
  clear hP hb hq ho hl hlen hx hxd
  go_enter Tryz.func63, Tryz.ntmps63
  go_upto_region 1 with fail
  go_quiet (fail)
  go_wp2_with fail
  go_ret
  exact ⟨rfl, below_drewN (Below.refl _ _) _⟩
/-- May a register have a place? -/
def freeB (row acr giv ps : List Int) (r place : Int) : Bool := hasN giv place && ((decide (6 ≤ place) || !hasN acr r) && !takenB row ps place)
/-- What the painter's rows are. -/
structure PaintOk (rows : List (List Int)) (ps : List Int) : Prop where
  len : rows.length = ps.length
  few : ps.length ≤ 100
  row : ∀ row ∈ rows, ∀ o ∈ row, 0 ≤ o ∧ o < (ps.length : Int)
set_option maxRecDepth 100000 in
set_option maxHeartbeats 2000000 in
theorem Taken_any (bp gp : Nat) (f : FunU) (bv xv av gv : Value) (rows : List (List Int)) (acr giv ps : List Int) (r : Nat) (row : List Int) (place : Int) (W : World) (hP : PaintAt W bp gp f bv xv av gv rows acr giv ps) (hO : PaintOk rows ps) (hr : rows[r]? = some row) :
    Calls Tryz.prog 41 #[.pointer (some ⟨bp, 0, none⟩), .int .i64 (r : Int), .int .i64 place] W fun e W' => e = .returned (.bool (takenB row ps place)) ∧ Below W.heap.size W W' := by
  have HP := Lib.hid hP
  have HOk := Lib.hid hO
  obtain ⟨xA, xc, rfl, hx1, hx2⟩ := hP.rows.form
  obtain ⟨nr, hnr⟩ : ∃ nr, rows.length = nr := ⟨_, rfl⟩
  have hrn : r < nr := by rw [← hnr]; exact (List.getElem?_eq_some_iff.1 hr).1
  rw [hnr] at HP hx1
  obtain ⟨_, xb, xo, rv, row', e1, e2, e3, e4, e5⟩ := HP.out.rows.at_ hrn
  obtain rfl : row = row' := by rw [hr] at e3; exact Option.some.inj e3
  subst e1
  obtain ⟨rA, rc, e6, _, _, _⟩ := id e5
  subst e6
  have HRv := Lib.hid e5
  have Hrow : Hid (∀ o ∈ row, 0 ≤ o ∧ o < (ps.length : Int)) := Lib.hid (hO.row row (List.mem_of_getElem? hr))
  have hr0 : (0 : Int) ≤ (r : Int) := Int.natCast_nonneg r
  have hr1 : (r : Int) < (nr : Int) := by omega
  have HB0 : Hid (Below W.heap.size W ((W.alloc (.cells #[.pointer (some ⟨bp, 0, none⟩)] 40)).alloc (.cells #[.int .i64 place] 3))) := Lib.hid (((Below.refl _ _).alloc (Nat.le_refl _) _).alloc (by simp) _)
  have HX0 : Hid (Blk ((W.alloc (.cells #[.pointer (some ⟨bp, 0, none⟩)] 40)).alloc (.cells #[.int .i64 place] 3)) W.heap.size 40 #[.pointer (some ⟨bp, 0, none⟩)]) := Lib.hid ((Blk.new _ _ _).alloc _)
  have HY0 : Hid (Blk ((W.alloc (.cells #[.pointer (some ⟨bp, 0, none⟩)] 40)).alloc (.cells #[.int .i64 place] 3)) (W.heap.size + 1) 3 #[.int .i64 place]) := Lib.hid (by simpa using Blk.new (W.alloc (.cells #[.pointer (some ⟨bp, 0, none⟩)] 40)) 3 #[.int .i64 place])
  have HQ : Hid (∀ W', Below W.heap.size W W' → takenB row ps place = takenB row ps place) := Lib.hid (fun _ _ => rfl)
  clear hP hO hr e2 e3 e5 hx1 hx2 HQ
  go_enter Tryz.func41, Tryz.ntmps41
  go_upto_region 1 with fail
  generalize (W.alloc (.cells #[.pointer (some ⟨bp, 0, none⟩)] 40)).alloc (.cells #[.int .i64 place] 3) = W0 at *
  generalize hgq : W.heap.size + 1 = gq at *
  have HP0 := Lib.hid (HP.out.below HB0.out)
  have p4 := HP0.out.blk.cell 4
  have x0 := HX0.out.cell 0
  have e4 := (bcell HB0.out (block_lt_of_cell e4)).trans e4
  have HC := Lib.hid (ContainsM_any 63 #[.pointer (some ⟨W.heap.size, 0, none⟩), .pointer (some ⟨gq, 0, none⟩)] (.slice rA row.length rc) row (fun o => ps.getD o.toNat 0 == place) W0 (HRv.out.move HB0.out.size (kept_of HB0.out (Nat.le_refl _))) (fun a W => MuLone.run_callFunc_enter Tryz.func63 (by kernel_rfl) rfl a W)
    (fun o W' ho hb => TakenDo_any bp gp W.heap.size gq f bv _ av gv rows acr giv ps place o W' (HP0.out.below hb) (HX0.out.below hb HX0.out.lt) (HY0.out.below hb HY0.out.lt) (Hrow.out o ho) (by have := HOk.out.few; omega)))
  go_wp2_with fail
  refine HC.out.mono ?_
  rintro e w1 ⟨rfl, hb1⟩
  have HB1 := Lib.hid (HB0.out.trans (hb1.mono HB0.out.size))
  clear hb1
  go_wp2_with fail
  go_ret
  exact ⟨rfl, HB1.out⟩
set_option maxRecDepth 100000 in
set_option maxHeartbeats 2000000 in
theorem Free_any (bp gp : Nat) (f : FunU) (bv xv av gv : Value) (rows : List (List Int)) (acr giv ps : List Int) (r : Nat) (row : List Int) (place : Int) (W : World) (hP : PaintAt W bp gp f bv xv av gv rows acr giv ps) (hO : PaintOk rows ps) (hr : rows[r]? = some row) :
    Calls Tryz.prog 40 #[.pointer (some ⟨bp, 0, none⟩), .int .i64 (r : Int), .int .i64 place] W fun e W' => e = .returned (.bool (freeB row acr giv ps (r : Int) place)) ∧ Below W.heap.size W W' := by
  have HP := Lib.hid hP
  have HT := Lib.hid (Taken_any bp gp f bv xv av gv rows acr giv ps r row place W hP hO hr)
  have HA := Lib.hid (HasI_any av acr (r : Int) W hP.acr)
  have HG := Lib.hid (HasI_any gv giv place W hP.giv)
  have p5 := hP.blk.cell 5
  have p6 := hP.blk.cell 6
  simp only [List.getElem?_toArray, List.getElem?_cons_succ, List.getElem?_cons_zero] at p5 p6
  have hbl := Below.refl W.heap.size W
  have HB := Lib.hid hbl
  obtain ⟨tk, htk⟩ : ∃ tk, takenB row ps place = tk := ⟨_, rfl⟩
  obtain ⟨ha, hha⟩ : ∃ ha, hasN acr (r : Int) = ha := ⟨_, rfl⟩
  obtain ⟨hg, hhg⟩ : ∃ hg, hasN giv place = hg := ⟨_, rfl⟩
  have HE : Hid (freeB row acr giv ps (r : Int) place = (hg && ((decide (6 ≤ place) || !ha) && !tk))) := Lib.hid (by unfold freeB; rw [htk, hha, hhg])
  rw [htk] at HT
  rw [hha] at HA
  rw [hhg] at HG
  rw [HE.out]
  clear hP hO hr htk hha hhg hbl HE
  by_cases h6 : place ≥ 6
  · have HD : Hid (decide (6 ≤ place) = true) := Lib.hid (decide_eq_true h6)
    rw [HD.out]
    go_enter Tryz.func40, Tryz.ntmps40
    go_wp2_with fail
    refine HG.out.mono ?_
    rintro e w' ⟨rfl, rfl⟩
    cases hg with
    | false =>
      go_wp2_with fail
      go_ret
      exact ⟨rfl, HB.out⟩
    | true =>
      go_wp2_with fail
      refine HT.out.mono ?_
      rintro e w1 ⟨rfl, hb1⟩
      have HB1 := Lib.hid hb1
      clear hb1
      go_wp2_with fail
      go_ret
      exact ⟨ret_bool (by simp), HB1.out⟩
  · have HD : Hid (decide (6 ≤ place) = false) := Lib.hid (decide_eq_false h6)
    rw [HD.out]
    cases ha with
    | false =>
      go_enter Tryz.func40, Tryz.ntmps40
      go_wp2_with fail
      refine HA.out.mono ?_
      rintro e w' ⟨rfl, rfl⟩
      go_wp2_with fail
      refine HG.out.mono ?_
      rintro e w' ⟨rfl, rfl⟩
      cases hg with
      | false =>
        go_wp2_with fail
        go_ret
        exact ⟨rfl, HB.out⟩
      | true =>
        go_wp2_with fail
        refine HT.out.mono ?_
        rintro e w1 ⟨rfl, hb1⟩
        have HB1 := Lib.hid hb1
        clear hb1
        go_wp2_with fail
        go_ret
        exact ⟨ret_bool (by simp), HB1.out⟩
    | true =>
      go_enter Tryz.func40, Tryz.ntmps40
      go_wp2_with fail
      refine HA.out.mono ?_
      rintro e w' ⟨rfl, rfl⟩
      go_wp2_with fail
      refine HG.out.mono ?_
      rintro e w' ⟨rfl, rfl⟩
      cases hg with
      | false =>
        go_wp2_with fail
        go_ret
        exact ⟨rfl, HB.out⟩
      | true =>
        go_wp2_with fail
        go_ret
        exact ⟨rfl, HB.out⟩
end Go.Proofs.YtiknhfbkphoceaaGreatDoor
namespace Go.Proofs.YtiknhfbkphoceaaGreatDoor
open Go.RowKit

/-- How many of the first registers are given. -/
def lowN (m : Nat) : Nat := min 6 ((m + 1) / 2)
/-- The machine's registers that are given, of so many. -/
def givenS (m : Nat) : List Int := (List.range (lowN m)).map (fun (r : Nat) => (r : Int)) ++ (List.range (m - lowN m)).map (fun (r : Nat) => 6 + (r : Int))
theorem own_snoc {w w' : World} {base H : Nat} {v v' : Value} {xs : List Int} {x : Int} (h : Appended w base 3 1 v (xs.length + 1) (xs.map (Value.int .i64) ++ [.int .i64 x]) H v' w') : OwnInts w' base v' (xs ++ [x]) := by
  unfold OwnInts
  rw [List.length_append, List.map_append]
  exact h.own
set_option maxRecDepth 100000 in
set_option maxHeartbeats 2000000 in
theorem Given_any (m : Nat) (w : World) (h1 : 2 ≤ m) (h2 : m ≤ 14) :
    Calls Tryz.prog 13 #[.int .i64 (m : Int)] w fun e w' => ∃ v, e = .returned v ∧ OwnInts w' w.heap.size v (givenS m) ∧ Below w.heap.size w w' := by
  have hq : ((m : Int) + 1).tdiv 2 = (((m + 1) / 2 : Nat) : Int) := by
    rw [Int.tdiv_eq_ediv_of_nonneg (by omega)]
    omega
  have hmin : min (6 : Int) (((m + 1) / 2 : Nat) : Int) = ((lowN m : Nat) : Int) := by unfold lowN; omega
  have hlm : lowN m ≤ m := by unfold lowN; omega
  obtain ⟨c, hc⟩ : ∃ c, lowN m = c := ⟨_, rfl⟩
  have HG : Hid (givenS m = (List.range c).map (fun (r : Nat) => (r : Int)) ++ (List.range (m - c)).map (fun (r : Nat) => 6 + (r : Int))) := Lib.hid (by unfold givenS; rw [hc])
  rw [hc] at hmin hlm
  obtain ⟨q, hqq⟩ : ∃ q, (m + 1) / 2 = q := ⟨_, rfl⟩
  rw [hqq] at hq hmin
  have hq7 : q ≤ 7 := by omega
  clear hc hqq
  go_enter Tryz.func13, Tryz.ntmps13
  go_upto_region 4 with fail
  go_loopg [4, 12] c (fun gk s i wr => ∃ j : Nat, j + gk = c ∧ i = .int .i64 (j : Int) ∧ Hid (OwnInts wr w.heap.size s ((List.range j).map (fun (r : Nat) => (r : Int)))) ∧ Hid (Below w.heap.size w wr))
  case atStart => exact ⟨0, by omega, rfl, Lib.hid (OwnInts.nil _ _), Lib.hid (Below.refl _ _)⟩
  case round =>
    obtain ⟨j, hj, rfl, HO, HB⟩ := hrel
    have hz := HB.out.size
    rcases gk with _ | mk
    · have hjt : ¬ (j : Int) < (c : Int) := by omega
      obtain rfl : j = c := by omega
      obtain ⟨d, hd⟩ : ∃ d, m - j = d := ⟨_, rfl⟩
      have hmd : (m : Int) - (j : Int) = (d : Int) := by omega
      rw [hd] at HG
      clear hd
      go_upto_region 9 with fail
      go_loopg [4, 23] d (fun gk s i wr => ∃ q : Nat, q + gk = d ∧ i = .int .i64 (q : Int) ∧ Hid (OwnInts wr w.heap.size s ((List.range j).map (fun (r : Nat) => (r : Int)) ++ (List.range q).map (fun (r : Nat) => 6 + (r : Int)))) ∧ Hid (Below w.heap.size w wr))
      case atStart => exact ⟨0, by omega, rfl, Lib.hid (by rw [List.range_zero, List.map_nil, List.append_nil]; exact HO.out), HB⟩
      case round =>
        obtain ⟨q2, hq2, rfl, HO2, HB2⟩ := hrel
        have hz2 := HB2.out.size
        rcases gk with _ | nk
        · have hqt : ¬ (q2 : Int) < (d : Int) := by omega
          obtain rfl : q2 = d := by omega
          go_wp2_with fail
          go_ret
          exact ⟨_, rfl, by rw [HG.out]; exact HO2.out, HB2.out⟩
        · have hqt : (q2 : Int) < (d : Int) := by omega
          have hl : ((List.range j).map (fun (r : Nat) => (r : Int)) ++ (List.range q2).map (fun (r : Nat) => 6 + (r : Int))).length ≤ 1000 := by
            rw [List.length_append, List.length_map, List.length_map, List.length_range, List.length_range]
            omega
          go_wp2_with (at_builtin; refine app_one rfl _ _ 26 3 rfl (.int .i64 0) 1 8 Tryz.underlying26 infoInt rfl (by decide) (by decide) w.heap.size _ _ _ (by rfl) HO2.out _ [.int .i64 (6 + (q2 : Int))] (by rfl) rfl (fun x hx => by simp at hx; subst hx; rfl) rfl (by omega) hz2 ?_; intro v5 w5 HA5)
          have HO5 : Hid (OwnInts w5 w.heap.size v5 ((List.range j).map (fun (r : Nat) => (r : Int)) ++ (List.range (q2 + 1)).map (fun (r : Nat) => 6 + (r : Int)))) := Lib.hid (by
            rw [List.range_succ, List.map_append, ← List.append_assoc]
            exact own_snoc HA5.out)
          have HB5 := Lib.hid (HB2.out.trans HA5.out.below)
          go_roundg nk
          case measure => omega
          case rel => exact ⟨q2 + 1, by omega, by go_num, HO5, HB5⟩
    · have hjt : (j : Int) < (c : Int) := by omega
      have hl : ((List.range j).map (fun (r : Nat) => (r : Int))).length ≤ 1000 := by
        rw [List.length_map, List.length_range]
        omega
      go_wp2_with (at_builtin; refine app_one rfl _ _ 26 3 rfl (.int .i64 0) 1 8 Tryz.underlying26 infoInt rfl (by decide) (by decide) w.heap.size _ _ _ (by rfl) HO.out _ [.int .i64 (j : Int)] (by rfl) rfl (fun x hx => by simp at hx; subst hx; rfl) rfl (by omega) hz ?_; intro v4 w4 HA4)
      have HO4 : Hid (OwnInts w4 w.heap.size v4 ((List.range (j + 1)).map (fun (r : Nat) => (r : Int)))) := Lib.hid (by
        rw [List.range_succ, List.map_append]
        exact own_snoc HA4.out)
      have HB4 := Lib.hid (HB.out.trans HA4.out.below)
      go_roundg mk
      case measure => omega
      case rel => exact ⟨j + 1, by omega, by go_num, HO4, HB4⟩
end Go.Proofs.YtiknhfbkphoceaaGreatDoor
