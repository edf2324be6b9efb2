/-
  clash.Of's closure: what one instruction and the registers that are live behind it put to the sets.
  Conditions: as the theorems say.
-/
import Derived.Test.YtgnkkgbjcodihaaDoorOfA
namespace Go.Proofs.YtgnkkgbjcodihaaDoor
open Go.RowKit

theorem eqVal (r q : Bool) (a b : Int) (w : World) : (Op.equalIn 10000 40 (.agg #[.bool r, .int .i64 a]) (.agg #[.bool q, .int .i64 b])).run Tryd.prog w = .ok (r == q && a == b) w := by
  have hS : Tryd.prog.underlying 40 = some (.struct (Tryd.prog.fieldsOf 40)) := by kernel_rfl
  rw [show (10000 : Nat) = 9999 + 1 from rfl, run_equalIn_agg w 9999 40 _ _ hS (by kernel_rfl)]
  simp only [Program.fieldsOf, Tryd.underlying40]
  have u3 := Tryd.underlying3
  have a3 := Tryd.isAgg3
  have z3 := Tryd.sizeOf3
  have u4 := Tryd.underlying4
  have a4 := Tryd.isAgg4
  have z4 := Tryd.sizeOf4
  go_simp
  by_cases h1 : a = b <;> cases r <;> cases q <;> simp [h1]
/-- Do an instruction's register and another one clash, if that is live behind it? -/
def asksC (x : InsU) (r : Int) : Bool := !(decide (x.op = 1) && (x.a.reg && decide (x.a.n = r)))
def evC (e : InsU × (Int → Bool)) (a b : Int) : Bool := decide (0 ≤ e.1.dst) && (decide (e.1.dst = a) && (e.2 b && asksC e.1 b))
/-- What stood, and what instructions put to it. -/
def clashS (S0 : Int → Int → Bool) (s : List (InsU × (Int → Bool))) (a b : Int) : Bool := S0 a b || (decide (a ≠ b) && s.any fun e => evC e a b || evC e b a)
theorem clashS_nil (S0 : Int → Int → Bool) (a b : Int) : clashS S0 [] a b = S0 a b := by simp [clashS]
theorem clashS_snoc (S0 : Int → Int → Bool) (s : List (InsU × (Int → Bool))) (e : InsU × (Int → Bool)) (a b : Int) : clashS S0 (s ++ [e]) a b = (clashS S0 s a b || (decide (a ≠ b) && (evC e a b || evC e b a))) := by
  unfold clashS
  rw [List.any_append]
  cases S0 a b <;> cases decide (a ≠ b) <;> simp
def pairsC (x : InsU) (L : List Int) : List (Int × Int) := (L.filter (asksC x)).map fun r => (x.dst, r)
theorem pairsC_snoc (x : InsU) (L : List Int) (r : Int) : pairsC x (L ++ [r]) = if asksC x r = true then pairsC x L ++ [(x.dst, r)] else pairsC x L := by
  unfold pairsC
  rw [List.filter_append]
  by_cases h : asksC x r = true
  · simp [h]
  · simp [h]
theorem pairs_all {S0 : Int → Int → Bool} {s : List (InsU × (Int → Bool))} {x : InsU} {T : Int → Bool} {L : List Int} (hd : 0 ≤ x.dst) (hL : ∀ r, r ∈ L ↔ T r = true) (a b : Int) : addPs (clashS S0 s) (pairsC x L) a b = clashS S0 (s ++ [(x, T)]) a b := by
  rw [clashS_snoc]
  unfold addPs
  congr 2
  rw [Bool.eq_iff_iff]
  unfold pairsC evC
  simp only [List.any_eq_true, List.mem_map, List.mem_filter, Bool.or_eq_true, Bool.and_eq_true, decide_eq_true_eq, hL]
  constructor
  · rintro ⟨p, ⟨r, ⟨h1, h2⟩, rfl⟩, ⟨h3, h4⟩ | ⟨h3, h4⟩⟩
    · subst h3; subst h4; exact .inl ⟨hd, rfl, h1, h2⟩
    · subst h3; subst h4; exact .inr ⟨hd, rfl, h1, h2⟩
  · rintro (⟨_, h2, h3, h4⟩ | ⟨_, h2, h3, h4⟩)
    · exact ⟨_, ⟨b, ⟨h3, h4⟩, rfl⟩, .inl ⟨h2, rfl⟩⟩
    · exact ⟨_, ⟨a, ⟨h3, h4⟩, rfl⟩, .inr ⟨h2, rfl⟩⟩
theorem quiet_all {S0 : Int → Int → Bool} {s : List (InsU × (Int → Bool))} {x : InsU} {T : Int → Bool} (hd : ¬ 0 ≤ x.dst) (a b : Int) : clashS S0 s a b = clashS S0 (s ++ [(x, T)]) a b := by
  rw [clashS_snoc]
  unfold evC
  simp [hd]
/-- What clash.Of keeps while it goes back. -/
structure OfNow (bc bs gs n : Nat) (ms : List Nat) (S0 : Int → Int → Bool) (s : List (InsU × (Int → Bool))) (W : World) : Prop where
  fn : Blk W bc 78 #[.func (.func 38) #[] #[.pointer (some ⟨bs, 0, none⟩)]]
  sets : SetsNow W bs gs n ms (clashS S0 s)
theorem Ranging.stay {wr w' : World} {base b r : Nat} {D : DataW Unit} {L : List Int} {cnt : Nat} (h : Ranging wr base b r D L cnt) (hb : w'.heap[b]? = wr.heap[b]?) (hr : w'.heap[r]? = wr.heap[r]?) : Ranging w' base b r D L cnt := by
  obtain ⟨h0, left, ⟨es, clock, since, seen, c0, h1, h2, h3, h4, h5, h6⟩, h7⟩ := h
  exact ⟨h0, left, ⟨es, clock, since, seen, c0, hb.trans h1, h2, h3, h4, hr.trans h5, h6⟩, h7⟩
theorem Ranging.lt {wr : World} {base b r : Nat} {D : DataW Unit} {L : List Int} {cnt : Nat} (h : Ranging wr base b r D L cnt) : b < wr.heap.size ∧ r < wr.heap.size := by
  obtain ⟨_, left, ⟨es, clock, since, seen, c0, h1, _, _, _, h5, _⟩, _⟩ := h
  exact ⟨(Array.getElem?_eq_some_iff.1 h1).1, (Array.getElem?_eq_some_iff.1 h5).1⟩
theorem SetsNow.lt {W : World} {bs gs n : Nat} {ms : List Nat} {S : Int → Int → Bool} (h : SetsNow W bs gs n ms S) {b : Nat} (hb : b ∈ ms) : b < W.heap.size := by
  obtain ⟨r, hr⟩ := List.mem_iff_getElem?.1 hb
  exact (h.sets r b hr).lt
set_option maxRecDepth 100000 in
set_option maxHeartbeats 4000000 in
theorem OfDo_any (bc bs gs n : Nat) (ms : List Nat) (S0 : Int → Int → Bool) (s : List (InsU × (Int → Bool))) (x : InsU) (T : Int → Bool) (W : World) (bn : Nat) (aA : Option Addr) (ac : Nat) (hn : n ≤ 100) (hx1 : x.dst < (n : Int)) (hJ : OfNow bc bs gs n ms S0 s W) (hne : bn ∉ ms) (hT : RegSet W bn n T) :
    Calls Tryd.prog 40 (#[.agg (insC2 x (.slice aA x.args.length ac)), .map (some bn)] ++ #[.pointer (some ⟨bc, 0, none⟩)]) W fun e W' => e = .returned (.tuple #[]) ∧ OfNow bc bs gs n ms S0 (s ++ [(x, T)]) W' ∧ MapsOnly (fun k => k ∈ ms) W W' := by
  obtain ⟨op, dst, ⟨ar, an⟩, ⟨br, bm⟩, fn, args⟩ := x
  have HJ := Lib.hid hJ
  have HT := Lib.hid hT
  have hbx := hJ.fn.lt
  have hbnl := hT.lt
  have HB0 : Hid (Below W.heap.size W (W.alloc (.cells #[.int .i64 op, .int .i64 dst, .bool ar, .int .i64 an, .bool br, .int .i64 bm, .int .i64 fn, .slice aA args.length ac] 47))) := Lib.hid ((Below.refl _ _).alloc (Nat.le_refl _) _)
  have HX0 : Hid (Blk (W.alloc (.cells #[.int .i64 op, .int .i64 dst, .bool ar, .int .i64 an, .bool br, .int .i64 bm, .int .i64 fn, .slice aA args.length ac] 47)) W.heap.size 47 #[.int .i64 op, .int .i64 dst, .bool ar, .int .i64 an, .bool br, .int .i64 bm, .int .i64 fn, .slice aA args.length ac]) := Lib.hid (Blk.new _ _ _)
  have Hms : Hid (∀ k ∈ ms, k < W.heap.size) := Lib.hid (fun k hk => hJ.sets.lt hk)
  unfold insC2
  simp only [List.append_toArray, List.cons_append, List.nil_append]
  clear hJ hT
  go_enter Tryd.func40, Tryd.ntmps40
  go_upto_region 1 with fail
  generalize W.alloc (.cells #[.int .i64 op, .int .i64 dst, .bool ar, .int .i64 an, .bool br, .int .i64 bm, .int .i64 fn, .slice aA args.length ac] 47) = W0 at *
  have x1 := HX0.out.cell 1
  by_cases hdst : dst < 0
  · have HE : Hid (∀ a b, clashS S0 s a b = clashS S0 (s ++ [(⟨op, dst, ⟨ar, an⟩, ⟨br, bm⟩, fn, args⟩, T)]) a b) := Lib.hid (quiet_all (x := ⟨op, dst, ⟨ar, an⟩, ⟨br, bm⟩, fn, args⟩) (by simp only; omega))
    go_wp2_with fail
    refine bodyPost_ret (results_none rfl _ _ _) rfl ?_
    have hmo : MapsOnly (fun k => k ∈ ms) W W0 := MapsOnly.of_below _ HB0.out
    exact ⟨rfl, ⟨hmo.blk HJ.out.fn, (HJ.out.sets.maps (MapsOnly.of_below (fun _ => False) HB0.out) (fun _ _ h => h)).congr HE.out⟩, hmo⟩
  · have hd0 : 0 ≤ dst := by omega
    have HE : Hid (∀ L : List Int, (∀ r, r ∈ L ↔ T r = true) → ∀ a b, addPs (clashS S0 s) (pairsC ⟨op, dst, ⟨ar, an⟩, ⟨br, bm⟩, fn, args⟩ L) a b = clashS S0 (s ++ [(⟨op, dst, ⟨ar, an⟩, ⟨br, bm⟩, fn, args⟩, T)]) a b) := Lib.hid (fun L hL => pairs_all hd0 hL)
    obtain ⟨⟨D, hown, hD⟩, hS⟩ := HT.out.below HB0.out hbnl
    have HO := Lib.hid hown
    have HD := Lib.hid (And.intro hD hS)
    clear hown hD hS
    go_wp2_with (at_range; refine wpList_range_own _ rfl _ 68 rfl 3 71 regKeyed Tryd.underlying68 _ bn (Maps.size D) D rfl HO.out ?_; intro w1 hrg1 hg1 hs1)
    have HR1 : Hid (Ranging w1 W0.heap.size bn W0.heap.size D [] (Maps.size D)) := Lib.hid (Ranging.start (Nat.le_refl _) hrg1)
    have hW0 : W.heap.size < W0.heap.size := HX0.out.lt
    have HB1 : Hid (Below W0.heap.size W0 w1) := Lib.hid (grown_below hg1 (Nat.le_refl _) (fun k e => by cases e))
    have hsz := regset_size HO.out HD.out.1 HD.out.2
    have hbn0 : bn < W0.heap.size := by omega
    have Hm0 : Hid (∀ k ∈ ms, k < W0.heap.size) := Lib.hid (fun k hk => Nat.lt_trans (Hms.out k hk) hW0)
    have HS1 : Hid (SetsNow w1 bs gs n ms (addPs (clashS S0 s) (pairsC ⟨op, dst, ⟨ar, an⟩, ⟨br, bm⟩, fn, args⟩ []))) := Lib.hid (((HJ.out.sets.maps (MapsOnly.of_below (fun _ => False) HB0.out) (fun _ _ h => h)).maps (MapsOnly.of_below (fun _ => False) HB1.out) (fun _ _ h => h)).congr (fun a b => by rw [show pairsC ⟨op, dst, ⟨ar, an⟩, ⟨br, bm⟩, fn, args⟩ [] = [] from rfl, addPs_nil]))
    have HM1 : Hid (MapsOnly (fun k => k ∈ ms ∨ W0.heap.size ≤ k) W0 w1) := Lib.hid (MapsOnly.of_below _ HB1.out)
    have Hne : Hid (bn ∉ ms) := Lib.hid hne
    clear hrg1 hg1 hs1 x1 hne
    go_loopg [] (Maps.size D) (fun gk wr => ∃ L, Hid (Ranging wr W0.heap.size bn W0.heap.size D L gk) ∧ Hid (SetsNow wr bs gs n ms (addPs (clashS S0 s) (pairsC ⟨op, dst, ⟨ar, an⟩, ⟨br, bm⟩, fn, args⟩ L))) ∧ Hid (MapsOnly (fun k => k ∈ ms ∨ W0.heap.size ≤ k) W0 wr))
    case atStart => exact ⟨[], HR1, HS1, HM1⟩
    case round =>
      obtain ⟨L, HR, HS, HM⟩ := hrel
      clear HR1 HS1 HM1
      obtain ⟨hge, left, hrg, hl1, hl2, hl3, hl4⟩ := HR.out
      have HL := Lib.hid (And.intro hl1 (And.intro hl2 (And.intro hl3 hl4)))
      have Hrg := Lib.hid hrg
      clear hl1 hl2 hl3 hl4 hrg hge
      go_wp2_with (at_next; refine wpList_next_ranges _ rfl _ rfl 3 regKeyed _ (Value.int .i64) (fun _ : Unit => .agg #[]) inv_key inv_unit bn W0.heap.size (Maps.size D) D left gk rfl Hrg.out ?_ ?_)
      · intro _ hl0
        go_wp2_with fail
        go_end0
        have hfin : MapsOnly (fun k => k ∈ ms ∨ W0.heap.size ≤ k) W wr := (MapsOnly.of_below _ HB0.out).trans HM.out
        exact ⟨rfl, ⟨hfin.blk HJ.out.fn, HS.out.congr (HE.out L (ranging_members hn HD.out.1 HD.out.2 hl0 HL.out.2.2.2))⟩, ⟨hfin.os, hfin.tape, hfin.output, hfin.size, fun k hk hnk => hfin.block k hk (fun e => e.elim hnk (fun e => by omega)), hfin.cells⟩⟩
      · intro x c kl y w2 cnt2 hkey hlx hy hat hrg2 hlt2 hg2 hs2 hen
        obtain ⟨x', ex, rfl, hwx⟩ := Maps.keyOf_int_inv Tryd.underlying3 hkey
        cases ex
        have HR2 : Hid (Ranging w2 W0.heap.size bn W0.heap.size D (L ++ [x]) cnt2) := Lib.hid (ranging_more (Nat.le_refl _) HL.out.1 HL.out.2.1 HL.out.2.2.1 HL.out.2.2.2 hwx hlx hlt2 hrg2)
        have hbk : ∀ (k : Nat) (o : Obj), wr.heap[k]? = some o → o.isCells = true → w2.heap[k]? = some o := fun k o hk ho => (hg2.block k (Array.getElem?_eq_some_iff.1 hk).1 (fun e => by
          obtain ⟨_, left, ⟨es, clock, since, seen, c0, _, _, _, _, h5, _⟩, _⟩ := HR.out
          rw [Option.some.inj e] at hk
          rw [hk] at h5
          cases h5
          cases ho)).trans hk
        have HM22 : Hid (MapsOnly (fun k => k = W0.heap.size) wr w2) := Lib.hid ⟨hg2.os, hg2.tape, hg2.output, hg2.size, fun k hk hnk => hg2.block k hk (fun e => hnk (Option.some.inj e)), hbk⟩
        have HS2 := Lib.hid (HS.out.maps HM22.out (fun b hb e => by have := Hm0.out b hb; omega))
        have HM2 := Lib.hid (HM.out.trans (HM22.out.wider (fun k h => .inr (by omega))))
        have hxT : 0 ≤ x ∧ x < (n : Int) := HD.out.2 x (by rw [← HD.out.1 x hwx]; exact HL.out.2.2.1 _ hlx)
        have x0 := HM2.out.cell (HX0.out.cell 0)
        have x1 := HM2.out.cell (HX0.out.cell 1)
        have x2 := HM2.out.cell (HX0.out.cell 2)
        have x3 := HM2.out.cell (HX0.out.cell 3)
        have f0 := HM2.out.cell (((MapsOnly.of_below (fun _ => False) HB0.out).blk HJ.out.fn).cell 0)
        have heq := fun W => eqVal ar true an x W
        clear hkey hlx hy hat hrg2 hg2 hs2 hbk
        have HCl := Lib.hid (OfClash_any bs gs n ms _ dst x w2 hn HS2.out ⟨hd0, hx1⟩ hxT)
        clear hxT
        by_cases hop : op = 1
        · subst hop
          by_cases hv : ar = true ∧ an = x
          · obtain ⟨rfl, rfl⟩ := hv
            have HS3 : Hid (SetsNow w2 bs gs n ms (addPs (clashS S0 s) (pairsC ⟨1, dst, ⟨true, an⟩, ⟨br, bm⟩, fn, args⟩ (L ++ [an])))) := Lib.hid (by rw [pairsC_snoc, if_neg (by simp [asksC])]; exact HS2.out)
            go_wp2_with fail
            go_roundg cnt2
            case measure => omega
            case rel => exact ⟨L ++ [an], HR2, HS3, HM2⟩
          · have hq : (ar == true && an == x) = false := by
              cases ar
              · rfl
              · simp only [true_and] at hv
                simp [hv]
            have hask : asksC ⟨1, dst, ⟨ar, an⟩, ⟨br, bm⟩, fn, args⟩ x = true := by
              unfold asksC
              cases ar
              · simp
              · simp only [true_and] at hv
                simp [hv]
            rw [hq] at heq
            clear hv hq
            go_wp2_with fail
            refine HCl.out.mono ?_
            rintro e w3 ⟨rfl, hs3, hm3⟩
            have HS3 : Hid (SetsNow w3 bs gs n ms (addPs (clashS S0 s) (pairsC ⟨1, dst, ⟨ar, an⟩, ⟨br, bm⟩, fn, args⟩ (L ++ [x])))) := Lib.hid (by rw [pairsC_snoc, if_pos hask, addPs_app]; exact hs3)
            have HR3 : Hid (Ranging w3 W0.heap.size bn W0.heap.size D (L ++ [x]) cnt2) := Lib.hid (HR2.out.stay (hm3.block bn HR2.out.lt.1 Hne.out) (hm3.block _ HR2.out.lt.2 (fun h => by have := Hm0.out _ h; omega)))
            have HM3 : Hid (MapsOnly (fun k => k ∈ ms ∨ W0.heap.size ≤ k) W0 w3) := Lib.hid (HM2.out.trans (hm3.wider fun k h => .inl h))
            clear hs3 hm3
            go_wp2_with fail
            go_roundg cnt2
            case measure => omega
            case rel => exact ⟨L ++ [x], HR3, HS3, HM3⟩
        · have hopb : (op != 1) = true := by simpa using hop
          have hask : asksC ⟨op, dst, ⟨ar, an⟩, ⟨br, bm⟩, fn, args⟩ x = true := by
            unfold asksC
            simp [hop]
          clear hop
          go_wp2_with fail
          refine HCl.out.mono ?_
          rintro e w3 ⟨rfl, hs3, hm3⟩
          have HS3 : Hid (SetsNow w3 bs gs n ms (addPs (clashS S0 s) (pairsC ⟨op, dst, ⟨ar, an⟩, ⟨br, bm⟩, fn, args⟩ (L ++ [x])))) := Lib.hid (by rw [pairsC_snoc, if_pos hask, addPs_app]; exact hs3)
          have HR3 : Hid (Ranging w3 W0.heap.size bn W0.heap.size D (L ++ [x]) cnt2) := Lib.hid (HR2.out.stay (hm3.block bn HR2.out.lt.1 Hne.out) (hm3.block _ HR2.out.lt.2 (fun h => by have := Hm0.out _ h; omega)))
          have HM3 : Hid (MapsOnly (fun k => k ∈ ms ∨ W0.heap.size ≤ k) W0 w3) := Lib.hid (HM2.out.trans (hm3.wider fun k h => .inl h))
          clear hs3 hm3
          go_wp2_with fail
          go_roundg cnt2
          case measure => omega
          case rel => exact ⟨L ++ [x], HR3, HS3, HM3⟩
end Go.Proofs.YtgnkkgbjcodihaaDoor
