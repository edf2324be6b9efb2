/-
  The law ColourFew.
  Conditions: as the theorems say.
-/
import Derived.Test.YtkkllflbepcimaaDoorCoT
namespace Go.Proofs.YtkkllflbepcimaaDoor
open Go.RowKit
attribute [local go_sem] Oper.semAt_some

theorem reads_snoc (k : Nat) : (List.range (k + 1)).map readI = (List.range k).map readI ++ [readI k] := by rw [List.range_succ, List.map_append]; rfl
theorem prints_snoc (n k : Nat) : (List.range n).map readI ++ (List.range (k + 1)).map printI = ((List.range n).map readI ++ (List.range k).map printI) ++ [printI k] := by rw [List.range_succ, List.map_append, List.append_assoc]; rfl
theorem crowd_len (n : Nat) : (crowdL n).length = n + n := by simp [crowdL]
theorem crowd_args (n : Nat) : ∀ x ∈ crowdL n, x.args.length ≤ 1000 := fun x hx => by
  rcases List.mem_append.1 hx with hx | hx
  · obtain ⟨k, _, rfl⟩ := List.mem_map.1 hx
    simp [readI]
  · obtain ⟨k, _, rfl⟩ := List.mem_map.1 hx
    simp [printI]
theorem words_take {ps : List Int} {i : Nat} {x : Int} (h : ps[i]? = some x) : ((ps.take (i + 1)).filter fun x => decide (16 ≤ x)).length = ((ps.take i).filter fun x => decide (16 ≤ x)).length + if 16 ≤ x then 1 else 0 := by
  rw [List.take_succ_eq_append_getElem (List.getElem?_eq_some_iff.1 h).1, (List.getElem?_eq_some_iff.1 h).2, List.filter_append, List.length_append]
  by_cases hx : 16 ≤ x
  · simp [hx]
  · simp [hx]
set_option maxRecDepth 100000 in
set_option maxHeartbeats 8000000 in
theorem ColourFew_any (many long : Int) (w : World) (hm : I64 many) (hl : I64 long) (hW : Ways w) :
    Calls Tryd.prog 4 #[.int .i64 many, .int .i64 long] w fun e w' => e = .returned (.bool true) ∧ Below w.heap.size w w' := by
  have HWa := Lib.hid hW
  have HP1 := Lib.hid (pickOf_any many 13 w (by decide) (by decide) hm)
  have HP2 := Lib.hid (pickOf_any long 20 w (by decide) (by decide) hl)
  obtain ⟨mm, hmm⟩ : ∃ mm : Nat, 2 + many % 13 = (mm : Int) := ⟨(2 + many % 13).toNat, by omega⟩
  have hmm2 : mm ≤ 14 := by omega
  obtain ⟨n, hn⟩ : ∃ n : Nat, 1 + long % 20 = (n : Int) := ⟨(1 + long % 20).toNat, by omega⟩
  have hn1 : 1 ≤ n := by omega
  have hn2 : n ≤ 20 := by omega
  have hmm1 : 2 ≤ mm := by omega
  have HB1 : Hid (Below w.heap.size w (w.alloc (.cells #[.slice none 0 0, .slice none 0 0, .int .i64 1, .bool false, .int .i64 0, .slice none 0 0] 34))) := Lib.hid ((Below.refl _ _).alloc (Nat.le_refl _) _)
  have HK1 : Hid (Blk (w.alloc (.cells #[.slice none 0 0, .slice none 0 0, .int .i64 1, .bool false, .int .i64 0, .slice none 0 0] 34)) w.heap.size 34 #[.slice none 0 0, .slice none 0 0, .int .i64 1, .bool false, .int .i64 0, .slice none 0 0]) := Lib.hid (Blk.new _ _ _)
  clear hm hl hW
  go_enter Tryd.func4, Tryd.ntmps4
  go_wp2_with fail
  refine HP1.out.mono ?_
  rintro e w' ⟨rfl, rfl⟩
  go_wp2_with fail
  refine HP2.out.mono ?_
  rintro e w' ⟨rfl, rfl⟩
  go_upto_region 5 with fail
  generalize w.alloc (.cells #[.slice none 0 0, .slice none 0 0, .int .i64 1, .bool false, .int .i64 0, .slice none 0 0] 34) = W1 at *
  go_loopg [8] n (fun gk iv wr => ∃ (k : Nat) (lv : Value), k + gk = n ∧ iv = .int .i64 (k : Int) ∧ Hid (OwnInss wr w.heap.size lv ((List.range k).map readI)) ∧ Hid (Blk wr w.heap.size 34 #[.slice none 0 0, lv, .int .i64 1, .bool false, .int .i64 0, .slice none 0 0]) ∧ Hid (Below w.heap.size w wr))
  case atStart => exact ⟨0, _, by omega, rfl, Lib.hid (OwnInss.nil _ _), HK1, HB1⟩
  case round =>
    obtain ⟨k, lv, hk, rfl, HL, HK, HB⟩ := hrel
    clear HK1 HB1
    have k1 := HK.out.cell 1
    have z1 := HK.out.frozen 1
    have hz := HB.out.size
    rcases gk with _ | mk
    · have hkn : n = k := by omega
      subst hkn
      have hkt : ¬ (n : Int) < (n : Int) := by omega
      obtain ⟨lA0, lc0, rfl⟩ := HL.out.form
      have HL0 : Hid (OwnInss wr w.heap.size (.slice lA0 ((List.range n).map readI).length lc0) ((List.range n).map readI ++ (List.range 0).map printI)) := Lib.hid (by rw [List.range_zero, List.map_nil, List.append_nil]; exact HL.out)
      clear k1 z1 HL
      go_upto_region 9 with fail
      go_loopg [9] n (fun gk iv wr => ∃ (k : Nat) (lv : Value), k + gk = n ∧ iv = .int .i64 (k : Int) ∧ Hid (OwnInss wr w.heap.size lv ((List.range n).map readI ++ (List.range k).map printI)) ∧ Hid (Blk wr w.heap.size 34 #[.slice none 0 0, lv, .int .i64 1, .bool false, .int .i64 0, .slice none 0 0]) ∧ Hid (Below w.heap.size w wr))
      case atStart => exact ⟨0, _, by omega, rfl, HL0, HK, HB⟩
      case round =>
        clear HL0 HK HB hz
        obtain ⟨k, lv, hk, rfl, HL, HK, HB⟩ := hrel
        have k1 := HK.out.cell 1
        have z1 := HK.out.frozen 1
        have hz := HB.out.size
        rcases gk with _ | mk
        · have hkn : n = k := by omega
          subst hkn
          have hkt : ¬ (n : Int) < (n : Int) := by omega
          obtain ⟨lA, lc, rfl⟩ := HL.out.form
          obtain ⟨ll, hll⟩ : ∃ ll, ((List.range n).map readI ++ (List.range n).map printI).length = ll := ⟨_, rfl⟩
          rw [hll] at HL HK k1
          clear hll
          go_upto_region 12 with fail
          generalize wr = W2 at *
          have k0 := HK.out.cell 0
          have k2 := HK.out.cell 2
          have k3 := HK.out.cell 3
          have k4 := HK.out.cell 4
          have k5 := HK.out.cell 5
          have hu := alone_unit (on := Opd.zero) (regs := (n : Int)) (HL.out.at_ (is := crowdL n) (by rw [crowd_len]; omega) (crowd_args n)) (HWa.out.own HB.out) (fun x hx => by
            rcases List.mem_append.1 hx with hx | hx
            · obtain ⟨i, hi, rfl⟩ := List.mem_map.1 hx
              have := List.mem_range.1 hi
              exact read_ok (by omega)
            · obtain ⟨i, hi, rfl⟩ := List.mem_map.1 hx
              have := List.mem_range.1 hi
              exact print_ok (by omega)) ⟨(show I64 (0 : Int) from i64_small (by decide))⟩ (i64_small ⟨by omega, by omega⟩)
          have HCo := Lib.hid (Colour_any _ _ [] [crowdF n] 0 (mm : Int) _ (i64_small (by decide)) hu)
          have HB3 : Hid (Below w.heap.size w ((W2.alloc (.cells #[.slice none 0 0, .slice lA ll lc, .int .i64 1, .bool false, .int .i64 0, .slice none 0 0] 34)).alloc (.cells #[.string mainName, .int .i64 0, .int .i64 (n : Int), .slice (some ⟨W2.heap.size, 0, none⟩) 1 1] 41))) :=
            Lib.hid ((HB.out.alloc hz _).alloc (by simp; exact Nat.le_succ_of_le hz) _)
          clear hu HL z1
          go_wp2_with fail
          refine HCo.out.mono ?_
          rintro e W3 ⟨pv, ps, rfl, hpv, hb3, _, hcol⟩
          have hcl := one_clash (f := crowdF n) (b := crowdB n) (crowd_unit hn2) rfl rfl
          have hcf : colF [] [crowdF n] 0 (mm : Int) = (0, 0) := by
            unfold colF
            rw [hcl, if_neg (by simp), if_neg (by omega)]
          rw [hcf] at hcol ⊢
          have hplc := crowd_places hn2 hmm2 (by
            have h := hcol rfl (crowdF n) rfl
            rw [Int.toNat_natCast, show (crowdF n).regs.toNat = n by show ((n : Nat) : Int).toNat = n; omega] at h
            exact h)
          have hz3 := HB3.out.size
          have HB4 : Hid (Below w.heap.size w (W3.alloc (.cells #[.int .i64 0, .int .i64 0] 36))) := Lib.hid ((HB3.out.trans (hb3.mono hz3)).alloc (Nat.le_trans hz3 hb3.size) _)
          have HF4 : Hid (Blk (W3.alloc (.cells #[.int .i64 0, .int .i64 0] 36)) W3.heap.size 36 #[.int .i64 0, .int .i64 0]) := Lib.hid (Blk.new _ _ _)
          have hp4 := (hpv.below (w' := W3.alloc (.cells #[.int .i64 0, .int .i64 0] 36)) ((Below.refl _ _).alloc (Nat.le_refl _) _) rfl).ints
          obtain ⟨pA, pc, rfl, _, _, hcell⟩ := hp4
          have Hpl := Lib.hid hplc
          rw [hplc.1] at hcell ⊢
          obtain ⟨pb, po, rfl, _, hcell⟩ := hcell (by omega)
          have HCe : Hid (∀ (i : Nat) (x : Int), ps[i]? = some x → (W3.alloc (.cells #[.int .i64 0, .int .i64 0] 36)).cell? ⟨pb, po + i, none⟩ = some (.int .i64 x)) := Lib.hid hcell
          clear hcol hcf hcl hplc hcell hb3 hz3 hpv HB HB3 HK HCo k0 k1 k2 k3 k4 k5 hz
          go_upto_region 13 with fail
          generalize W3.alloc (.cells #[.int .i64 0, .int .i64 0] 36) = W4 at *
          generalize W3.heap.size = g10 at *
          have x0 := HF4.out.cell 0
          go_upto_region 17 with fail
          clear x0
          go_loopg [12, 13] n (fun gk wv iv wz => ∃ (i : Nat), i + gk = n ∧ iv = .int .i64 (i : Int) ∧ wv = .int .i64 ((((ps.take i).filter fun x => decide (16 ≤ x)).length : Nat) : Int) ∧ Hid (∀ (i : Nat) (x : Int), ps[i]? = some x → wz.cell? ⟨pb, po + i, none⟩ = some (.int .i64 x)) ∧ Hid (Below w.heap.size w wz))
          case atStart => exact ⟨0, by omega, rfl, rfl, HCe, HB4⟩
          case round =>
            obtain ⟨i, hi, rfl, rfl, HCi, HBi⟩ := hrel
            clear HCe HB4 HF4
            rcases gk with _ | zk
            · have hin : n = i := by omega
              subst hin
              have hit : ¬ (n : Int) < (n : Int) := by omega
              obtain ⟨wd, hwd⟩ : ∃ wd, ((ps.take n).filter fun x => decide (16 ≤ x)).length = wd := ⟨_, rfl⟩
              have hw2 : wd = if n ≤ mm then 0 else n - mm := by
                rw [← hwd, ← Hpl.out.2.2, List.take_of_length_le (by rw [Hpl.out.1]; exact Nat.le_refl _)]
              rw [hwd]
              have Hw2 := Lib.hid hw2
              clear hwd hw2
              by_cases hnm : (n : Int) ≤ (mm : Int)
              · have hw0 : ((wd : Int) == 0) = true := by
                  have := Hw2.out
                  rw [if_pos (by omega)] at this
                  rw [this]
                  rfl
                go_wp2_with fail
                go_ret
                exact ⟨rfl, HBi.out⟩
              · have hw0 : ((wd : Int) == (n : Int) - (mm : Int)) = true := by
                  have := Hw2.out
                  rw [if_neg (by omega)] at this
                  rw [beq_iff_eq]
                  omega
                go_wp2_with fail
                go_ret
                exact ⟨rfl, HBi.out⟩
            · have hit : (i : Int) < (n : Int) := by omega
              have hi0 : (0 : Int) ≤ (i : Int) := Int.natCast_nonneg i
              obtain ⟨x, hx⟩ : ∃ x, ps[i]? = some x := ⟨ps[i]'(by rw [Hpl.out.1]; omega), List.getElem?_eq_getElem _⟩
              have Hx := Lib.hid hx
              have HWd : Hid (((ps.take (i + 1)).filter fun x => decide (16 ≤ x)).length = ((ps.take i).filter fun x => decide (16 ≤ x)).length + if 16 ≤ x then 1 else 0) := Lib.hid (words_take hx)
              have hwl : ((ps.take i).filter fun x => decide (16 ≤ x)).length ≤ 100 := by
                have h1 := List.length_filter_le (fun x => decide (16 ≤ x)) (ps.take i)
                have h2 := List.length_take_le i ps
                omega
              generalize ((ps.take i).filter fun x => decide (16 ≤ x)).length = wd at *
              clear hx
              go_upto_region 20 with fail
              go_loopg [14] i (fun gk kv wy => ∃ q : Nat, q + gk = i ∧ kv = .int .i64 (q : Int) ∧ Hid (∀ (i : Nat) (x : Int), ps[i]? = some x → wy.cell? ⟨pb, po + i, none⟩ = some (.int .i64 x)) ∧ Hid (Below w.heap.size w wy))
              case atStart => exact ⟨0, by omega, rfl, HCi, HBi⟩
              case round =>
                clear HCi HBi
                obtain ⟨q, hq, rfl, HCq, HBq⟩ := hrel
                have ci := HCq.out i x Hx.out
                rcases gk with _ | yk
                · have hqt : ¬ (q : Int) < (i : Int) := by omega
                  by_cases h16 : x ≥ 16
                  · have HWn : Hid ((((((ps.take (i + 1)).filter fun x => decide (16 ≤ x)).length) : Nat) : Int) = (wd : Int) + 1) := Lib.hid (by rw [HWd.out, if_pos (by omega)]; omega)
                    go_wp2_with fail
                    go_roundg zk
                    case measure => omega
                    case rel => exact ⟨i + 1, by omega, by go_num, by rw [HWn.out], HCq, HBq⟩
                  · have HWn : Hid ((((((ps.take (i + 1)).filter fun x => decide (16 ≤ x)).length) : Nat) : Int) = (wd : Int)) := Lib.hid (by rw [HWd.out, if_neg (by omega)]; omega)
                    go_wp2_with fail
                    go_roundg zk
                    case measure => omega
                    case rel => exact ⟨i + 1, by omega, by go_num, by rw [HWn.out], HCq, HBq⟩
                · have hqt : (q : Int) < (i : Int) := by omega
                  have hq0 : (0 : Int) ≤ (q : Int) := Int.natCast_nonneg q
                  have hqn : (q : Int) < (n : Int) := by omega
                  obtain ⟨y, hy⟩ : ∃ y, ps[q]? = some y := ⟨ps[q]'(by rw [Hpl.out.1]; omega), List.getElem?_eq_getElem _⟩
                  have cq := HCq.out q y hy
                  have hne : x ≠ y := fun e => Hpl.out.2.1 q i y x (by omega) hy Hx.out e.symm
                  have hd : decide (x = y) = false := decide_eq_false hne
                  have hb : (x == y) = false := by simpa using hne
                  have HC5 : Hid (∀ m, ∀ (i : Nat) (x : Int), ps[i]? = some x → (wr.drewN m).cell? ⟨pb, po + i, none⟩ = some (.int .i64 x)) := Lib.hid (fun m i x hi => HCq.out i x hi)
                  have HB5 : Hid (∀ m, Below w.heap.size w (wr.drewN m)) := Lib.hid (fun m => below_drewN HBq.out m)
                  clear hy hne
                  go_upto_region 22 with fail
                  go_quiet (fail)
                  go_wp2_with fail
                  go_roundg yk
                  case measure => omega
                  case rel => exact ⟨q + 1, by omega, by go_num, Lib.hid (HC5.out _), Lib.hid (HB5.out _)⟩
        · have hkt : (k : Int) < (n : Int) := by omega
          obtain ⟨ys, hys, hrow, hops⟩ := HL.out
          have hyl : ys.length ≤ 100 := by
            have := congrArg List.length hys
            rw [List.length_map, List.length_append, List.length_map, List.length_map, List.length_range, List.length_range] at this
            omega
          have Hrow := Lib.hid hrow
          have Hops := Lib.hid hops
          have Hys := Lib.hid hys
          clear hrow hops hys
          go_wp2_with (at_builtin; refine app_one rfl _ _ 28 27 rfl (.agg #[.int .i64 0, .int .i64 0, .bool false, .int .i64 0, .bool false, .int .i64 0, .int .i64 0, .slice none 0 0]) 8 80 Tryd.underlying28 infoIn rfl (by decide) (by decide) w.heap.size _ _ _ (by rfl) Hrow.out _ [.int .i64 22, .int .i64 (-1), .bool true, .int .i64 (k : Int), .bool false, .int .i64 0, .int .i64 0, .slice none 0 0] (by rfl) rfl (fun x hx => by simp only [List.mem_cons, List.not_mem_nil, or_false] at hx; rcases hx with rfl | rfl | rfl | rfl | rfl | rfl | rfl | rfl <;> rfl) rfl (by omega) hz ?_; intro v5 w5 HA5; obtain ⟨A5, c5, rfl⟩ := row_form HA5.out.own; have HK5 := Lib.hid (HA5.out.blk Hrow.out HK.out (by decide)); have k1 := HK5.out.cell 1; have z1 := HK5.out.frozen 1)
          have HL5 : Hid (OwnInss w5 w.heap.size (.slice A5 (ys.length + 1) c5) ((List.range n).map readI ++ (List.range (k + 1)).map printI)) := Lib.hid (by
            rw [prints_snoc, ← Hys.out]
            exact inss_snoc Hrow.out Hops.out rfl HA5.out)
          have HL6 : Hid (OwnInss (w5.setCell ⟨w.heap.size, 1, none⟩ (.slice A5 (ys.length + 1) c5)) w.heap.size (.slice A5 (ys.length + 1) c5) ((List.range n).map readI ++ (List.range (k + 1)).map printI)) := Lib.hid (HL5.out.far HK5.out (by decide) (by decide) _ _)
          have HK6 : Hid (Blk (w5.setCell ⟨w.heap.size, 1, none⟩ (.slice A5 (ys.length + 1) c5)) w.heap.size 34 #[.slice none 0 0, .slice A5 (ys.length + 1) c5, .int .i64 1, .bool false, .int .i64 0, .slice none 0 0]) := Lib.hid (HK5.out.set_ 1 _)
          have HB6 : Hid (Below w.heap.size w (w5.setCell ⟨w.heap.size, 1, none⟩ (.slice A5 (ys.length + 1) c5))) := Lib.hid ((HB.out.trans HA5.out.below).setCell (Nat.le_refl _) _)
          go_roundg mk
          case measure => omega
          case rel => exact ⟨k + 1, _, by omega, by go_num, HL6, HK6, HB6⟩
    · have hkt : (k : Int) < (n : Int) := by omega
      obtain ⟨ys, hys, hrow, hops⟩ := HL.out
      have hyl : ys.length ≤ 100 := by
        have := congrArg List.length hys
        rw [List.length_map, List.length_map, List.length_range] at this
        omega
      have Hrow := Lib.hid hrow
      have Hops := Lib.hid hops
      have Hys := Lib.hid hys
      clear hrow hops hys
      go_wp2_with (at_builtin; refine app_one rfl _ _ 28 27 rfl (.agg #[.int .i64 0, .int .i64 0, .bool false, .int .i64 0, .bool false, .int .i64 0, .int .i64 0, .slice none 0 0]) 8 80 Tryd.underlying28 infoIn rfl (by decide) (by decide) w.heap.size _ _ _ (by rfl) Hrow.out _ [.int .i64 21, .int .i64 (k : Int), .bool false, .int .i64 0, .bool false, .int .i64 0, .int .i64 0, .slice none 0 0] (by rfl) rfl (fun x hx => by simp only [List.mem_cons, List.not_mem_nil, or_false] at hx; rcases hx with rfl | rfl | rfl | rfl | rfl | rfl | rfl | rfl <;> rfl) rfl (by omega) hz ?_; intro v5 w5 HA5; obtain ⟨A5, c5, rfl⟩ := row_form HA5.out.own; have HK5 := Lib.hid (HA5.out.blk Hrow.out HK.out (by decide)); have k1 := HK5.out.cell 1; have z1 := HK5.out.frozen 1)
      have HL5 : Hid (OwnInss w5 w.heap.size (.slice A5 (ys.length + 1) c5) ((List.range (k + 1)).map readI)) := Lib.hid (by
        rw [reads_snoc, ← Hys.out]
        exact inss_snoc Hrow.out Hops.out rfl HA5.out)
      have HL6 : Hid (OwnInss (w5.setCell ⟨w.heap.size, 1, none⟩ (.slice A5 (ys.length + 1) c5)) w.heap.size (.slice A5 (ys.length + 1) c5) ((List.range (k + 1)).map readI)) := Lib.hid (HL5.out.far HK5.out (by decide) (by decide) _ _)
      have HK6 : Hid (Blk (w5.setCell ⟨w.heap.size, 1, none⟩ (.slice A5 (ys.length + 1) c5)) w.heap.size 34 #[.slice none 0 0, .slice A5 (ys.length + 1) c5, .int .i64 1, .bool false, .int .i64 0, .slice none 0 0]) := Lib.hid (HK5.out.set_ 1 _)
      have HB6 : Hid (Below w.heap.size w (w5.setCell ⟨w.heap.size, 1, none⟩ (.slice A5 (ys.length + 1) c5))) := Lib.hid ((HB.out.trans HA5.out.below).setCell (Nat.le_refl _) _)
      go_roundg mk
      case measure => omega
      case rel => exact ⟨k + 1, _, by omega, by go_num, HL6, HK6, HB6⟩
end Go.Proofs.YtkkllflbepcimaaDoor
