/-
  The law ClashTurns.
  Conditions: the unit's numbers are Go's.
-/
import Derived.Test.YtgnkkgbjcodihaaDoorOfG
import Derived.Test.YtgnkkgbjcodihaaDoorUoA
import Derived.Test.YtgnkkgbjcodihaaDoorUoB
namespace Go.Proofs.YtgnkkgbjcodihaaDoor
open Go.RowKit

def hasN (xs : List Int) (x : Int) : Bool := xs.any fun y => y == x
theorem hasN_iff {xs : List Int} {x : Int} : hasN xs x = true ↔ x ∈ xs := by
  unfold hasN
  rw [List.any_eq_true]
  constructor
  · rintro ⟨y, hy, he⟩
    rwa [← eq_of_beq he]
  · intro h
    exact ⟨x, h, by simp⟩
set_option maxHeartbeats 1000000 in
theorem hasInt_any (v : Value) (xs : List Int) (x : Int) (B : Nat) (w : World) (hv : IntsAt w B v xs) :
    Calls Tryd.prog 20 #[v, .int .i64 x] w fun e w' => e = .returned (.bool (hasN xs x)) ∧ w = w' := by
  obtain ⟨A, c, rfl, hl, hc63, hcell⟩ := hv
  have HC := Lib.hid hcell
  clear hcell
  obtain ⟨len, hlen⟩ : ∃ len, xs.length = len := ⟨_, rfl⟩
  have HL := Lib.hid hlen
  rw [hlen] at hl HC ⊢
  clear hlen
  go_enter Tryd.func20, Tryd.ntmps20
  go_wp2_with fail
  go_loop [5] (fun i => ∃ k : Nat, k ≤ len ∧ i = .int .i64 k ∧ Hid (∀ (j : Nat) (y : Int), j < k → xs[j]? = some y → y ≠ x)) (fun i => len - (intOf i).toNat)
  case atStart => exact ⟨0, Nat.zero_le _, rfl, Lib.hid (fun j y h => absurd h (Nat.not_lt_zero j))⟩
  case round =>
    obtain ⟨k, hk, rfl, HF⟩ := hrel
    by_cases hlt : k < len
    · obtain ⟨b, off, hA, _, hcc⟩ := HC.out (by omega)
      subst hA
      obtain ⟨y, hy⟩ : ∃ y, xs[k]? = some y := ⟨xs[k]'(by rw [HL.out]; exact hlt), List.getElem?_eq_getElem _⟩
      have cy := hcc k y hy
      have Hy := Lib.hid hy
      clear hy hcc
      by_cases he : y = x
      · have hb : (y == x) = true := by simp [he]
        have HE : Hid (hasN xs x = true) := Lib.hid (by unfold hasN; rw [List.any_eq_true]; exact ⟨y, List.mem_of_getElem? Hy.out, hb⟩)
        clear he
        go_wp2_with fail
        go_ret
        exact ⟨ret_bool HE.out.symm, rfl⟩
      · have hb : (y == x) = false := by simp [he]
        have He := Lib.hid he
        clear he
        go_wp2_with fail
        go_round
        case rel =>
          refine ⟨k + 1, by omega, by go_num, Lib.hid fun j z hj hz => ?_⟩
          rcases Nat.lt_or_ge j k with h | h
          · exact HF.out j z h hz
          · obtain rfl : j = k := by omega
            rw [Hy.out] at hz
            cases hz
            exact He.out
        case measure => simp [intOf]; omega
    · have HE : Hid (hasN xs x = false) := Lib.hid (by
        unfold hasN
        rw [List.any_eq_false]
        intro y hy
        obtain ⟨j, hj⟩ := List.mem_iff_getElem?.1 hy
        have hjl := (List.getElem?_eq_some_iff.1 hj).1
        have := HF.out j y (by have := HL.out; omega) hj
        simpa using this)
      go_wp2_with fail
      go_ret
      exact ⟨ret_bool HE.out.symm, rfl⟩

theorem RowsOwn.form {w : World} {base : Nat} {v : Value} {xss : List (List Int)} (h : RowsOwn w base v xss) : ∃ A c, v = .slice A xss.length c := by
  obtain ⟨rs, h1, h2, _⟩ := h
  obtain ⟨A, c, e⟩ := row_form h2
  exact ⟨A, c, by rw [e, h1]⟩
theorem RowsOwn.at_ {w : World} {base : Nat} {A : Option Addr} {n c : Nat} {xss : List (List Int)} (h : RowsOwn w base (.slice A n c) xss) {r : Nat} (hr : r < xss.length) :
    ∃ g0 rA rc xs, A = some ⟨g0, 0, none⟩ ∧ xss[r]? = some xs ∧ w.cell? ⟨g0, r, none⟩ = some (.slice rA xs.length rc) ∧ IntsAt w w.heap.size (.slice rA xs.length rc) xs := by
  obtain ⟨rs, h1, h2, h3⟩ := h
  obtain ⟨g0, cap, e, _⟩ := World.ownsRow.form h2 (by omega)
  injection e with e1 e2 e3
  subst e1; subst e2; subst e3
  obtain ⟨u, hu⟩ : ∃ u, rs[r]? = some u := ⟨_, List.getElem?_eq_getElem (by omega)⟩
  obtain ⟨xs, hx⟩ : ∃ xs, xss[r]? = some xs := ⟨_, List.getElem?_eq_getElem hr⟩
  have ho := h3 r u xs hu hx
  obtain ⟨rA, rc, rfl⟩ := row_form ho
  exact ⟨g0, rA, rc, xs, rfl, hx, row_cell h2 hu, OwnInts.ints ho⟩
/-- A block that leads nowhere: what is live at its end. -/
def onS (b : BlkU) (r : Int) : Bool := decide (r ∈ occV b.on)
theorem end_none {b : BlkU} (h : b.to = []) (I : Nat → Int → Bool) : endU b I = onS b := by
  funext r
  unfold endU onS
  rw [h]
  simp
theorem evAll_one {b : BlkU} (h : b.to = []) : evAll [b] 1 = evF b.list.reverse (onS b) := by
  unfold evAll evB
  simp [end_none h]
theorem inU_one {b : BlkU} (h : b.to = []) (r : Int) : inU [b] 0 r = upTo b.list (onS b) r := by
  rw [inU_eq, stepU_at (b := b) rfl, end_none h]
theorem ofS_one {b : BlkU} (h : b.to = []) : ofS [b] = clashS (fun x y => decide (x ≠ y) && (upTo b.list (onS b) x && upTo b.list (onS b) y)) (evF b.list.reverse (onS b)) := by
  unfold ofS
  rw [show [b].length = 1 from rfl, evAll_one h]
  congr 1
  funext x y
  unfold beginS
  rw [inU_one h, inU_one h]
theorem twin_rows : ofF [] twinFs 0 = [[1], [0], []] := by
  unfold ofF
  rw [twin_clash]
  simp only [ne_eq, not_true_eq_false, if_false]
  show ofRows ⟨mainName, 0, 3, [twinB]⟩ = _
  unfold ofRows
  simp only
  rw [ofS_one rfl]
  decide
set_option maxRecDepth 100000 in
set_option maxHeartbeats 4000000 in
theorem ClashSure_any (w : World) (hw : Ways w) : Calls Tryd.prog 18 #[] w fun e w' => e = .returned (.bool true) ∧ Below w.heap.size w w' := by
  have HT0 := Lib.hid (twin_any w hw)
  clear hw
  go_enter Tryd.func18, Tryd.ntmps18
  go_upto_region 1 with fail
  go_wp2_with fail
  refine HT0.out.mono ?_
  rintro e W1 ⟨tg, tf, rfl, htu, hb1⟩
  have HB1 := Lib.hid hb1
  have HT := Lib.hid htu
  clear hb1 htu HT0
  go_wp2_with fail
  refine (Of_any tg tf [] twinFs 0 W1 (i64_small (by decide)) HT.out).mono ?_
  rintro e W2 ⟨v2, rfl, ho2, hb2⟩
  rw [twin_clash, twin_rows] at *
  have HB2 : Hid (Below w.heap.size w (W2.alloc (.cells #[.int .i64 0, .int .i64 0] 28))) := Lib.hid ((HB1.out.trans (hb2.mono HB1.out.size)).alloc (HB1.out.trans (hb2.mono HB1.out.size)).size _)
  have HF2 : Hid (Blk (W2.alloc (.cells #[.int .i64 0, .int .i64 0] 28)) W2.heap.size 28 #[.int .i64 0, .int .i64 0]) := Lib.hid (Blk.new _ _ _)
  have hor := ho2.below (w' := W2.alloc (.cells #[.int .i64 0, .int .i64 0] 28)) ((Below.refl _ _).alloc (Nat.le_refl _) _) rfl
  obtain ⟨vA, vc, rfl⟩ := hor.form
  obtain ⟨g0, a0, c0, xs0, rfl, hx0, hc0, hi0⟩ := hor.at_ (r := 0) (by decide)
  obtain ⟨_, a1, c1, xs1, e1, hx1, hc1, hi1⟩ := hor.at_ (r := 1) (by decide)
  injection e1 with e1; injection e1 with e1; subst e1
  obtain ⟨_, a2, c2, xs2, e2, hx2, hc2, hi2⟩ := hor.at_ (r := 2) (by decide)
  injection e2 with e2; injection e2 with e2; subst e2
  obtain rfl : xs0 = [1] := (Option.some.inj hx0).symm
  obtain rfl : xs1 = [0] := (Option.some.inj hx1).symm
  obtain rfl : xs2 = [] := (Option.some.inj hx2).symm
  have HI := Lib.hid (And.intro hi0 hi1)
  simp only [List.length_cons, List.length_nil, Nat.zero_add, Nat.reduceAdd] at hc0 hc1 hc2 HI ⊢
  clear hb2 ho2 HB1 HT hor hx0 hx1 hx2 hi0 hi1 hi2
  go_upto_region 2 with fail
  generalize W2.alloc (.cells #[.int .i64 0, .int .i64 0] 28) = W3 at *
  generalize W2.heap.size = g6 at *
  have f0 := HF2.out.cell 0
  have HB3 : Hid (Below W3.heap.size W3 (W3.alloc (.cells #[.int .i64 1] 3))) := Lib.hid ((Below.refl _ _).alloc (Nat.le_refl _) _)
  have HJ3 : Hid (IntsAt (W3.alloc (.cells #[.int .i64 1] 3)) (W3.alloc (.cells #[.int .i64 1] 3)).heap.size (.slice (some ⟨W3.heap.size, 0, none⟩) 1 1) [1]) := Lib.hid (OwnInts.ints (own_of_blk (xs := [1]) (Blk.new W3 3 _) (Nat.zero_le _) (by decide)))
  have HI3 := Lib.hid ((HI.out.1.below HB3.out (Nat.le_refl _)).more HB3.out.size)
  go_wp2_with fail
  refine (Ints_any _ _ _ _ _ HI3.out HJ3.out).mono ?_
  rintro e W4 ⟨rfl, hb4⟩
  rw [decide_eq_true rfl]
  have HB4 : Hid (Below W3.heap.size W3 W4) := Lib.hid (HB3.out.trans (hb4.mono HB3.out.size))
  have hc1 := (bcell HB4.out (block_lt_of_cell hc1)).trans hc1
  have HB5 : Hid (Below W3.heap.size W3 (W4.alloc (.cells #[.int .i64 0] 3))) := Lib.hid (HB4.out.alloc HB4.out.size _)
  have HJ5 : Hid (IntsAt (W4.alloc (.cells #[.int .i64 0] 3)) (W4.alloc (.cells #[.int .i64 0] 3)).heap.size (.slice (some ⟨W4.heap.size, 0, none⟩) 1 1) [0]) := Lib.hid (OwnInts.ints (own_of_blk (xs := [0]) (Blk.new W4 3 _) (Nat.zero_le _) (by decide)))
  have HI5 := Lib.hid ((HI.out.2.below HB5.out (Nat.le_refl _)).more HB5.out.size)
  clear hb4 HI3 HJ3 HB3
  go_wp2_with fail
  refine (Ints_any _ _ _ _ _ HI5.out HJ5.out).mono ?_
  rintro e W6 ⟨rfl, hb6⟩
  rw [decide_eq_true rfl]
  have HB6 : Hid (Below W3.heap.size W3 W6) := Lib.hid (HB5.out.trans (hb6.mono HB5.out.size))
  have hc2 := (bcell (HB5.out.trans (hb6.mono HB5.out.size)) (block_lt_of_cell hc2)).trans hc2
  have HBf : Hid (Below w.heap.size w W6) := Lib.hid (HB2.out.trans (HB6.out.mono HB2.out.size))
  clear hb6
  go_wp2_with fail
  go_ret
  exact ⟨rfl, HBf.out⟩
theorem ofS_turn (bs : List BlkU) (a b : Int) : ofS bs a b = ofS bs b a := by
  unfold ofS clashS beginS
  rw [show decide (a ≠ b) = decide (b ≠ a) by simp [ne_comm]]
  congr 1
  · rw [Bool.and_comm (inU bs 0 a)]
  · congr 2
    funext e
    rw [Bool.or_comm]
theorem ofS_self (bs : List BlkU) (a : Int) : ofS bs a a = false := by
  unfold ofS clashS beginS
  simp
theorem pairwise_before {l : List Int} (h : l.Pairwise (· < ·)) {i j : Nat} {x y : Int} (hi : l[i]? = some x) (hj : l[j]? = some y) (hij : i < j) : x < y := by
  obtain ⟨i1, rfl⟩ := List.getElem?_eq_some_iff.1 hi
  obtain ⟨j1, rfl⟩ := List.getElem?_eq_some_iff.1 hj
  exact List.pairwise_iff_getElem.1 h i j i1 j1 hij
set_option maxRecDepth 100000 in
set_option maxHeartbeats 8000000 in
theorem ClashTurns_any (gv fv : Value) (gs : List Glob) (fs : List FunU) (k : Int) (w : World) (hk : I64 k) (hu : UnitAt w w.heap.size gv fv gs fs) :
    Calls Tryd.prog 6 #[.agg #[gv, fv], .int .i64 k] w fun e w' => e = .returned (.bool true) ∧ Below w.heap.size w w' := by
  have HU := Lib.hid hu
  obtain ⟨A, c, rfl, hl1, hl2⟩ := SlAt.form hu.funs
  obtain ⟨l, hl⟩ : ∃ l, fs.length = l := ⟨_, rfl⟩
  rw [hl] at HU hl1 ⊢
  have Hl := Lib.hid hl
  have Hk := Lib.hid hk
  have HB0 : Hid (Below w.heap.size w (w.alloc (.cells #[gv, .slice A l c] 25))) := Lib.hid ((Below.refl _ _).alloc (Nat.le_refl _) _)
  have HC0 : Hid (Blk (w.alloc (.cells #[gv, .slice A l c] 25)) w.heap.size 25 #[gv, .slice A l c]) := Lib.hid (Blk.new w _ _)
  clear hu hk hl
  go_enter Tryd.func6, Tryd.ntmps6
  go_upto_region 1 with fail
  generalize w.alloc (.cells #[gv, .slice A l c] 25) = W0 at *
  have HU0 := Lib.hid (HU.out.later HB0.out)
  have c0 := HC0.out.cell 0
  have c1 := HC0.out.cell 1
  go_wp2_with fail
  refine (good_any gv _ gs fs k W0 Hk.out HU0.out).mono ?_
  rintro e W5 ⟨rfl, hb5⟩
  have HB5 := Lib.hid (HB0.out.trans (hb5.mono HB0.out.size))
  have HC5 := Lib.hid (HC0.out.below hb5 HC0.out.lt)
  have HU5 := Lib.hid (HU.out.later HB5.out)
  clear hb5 HU0 HC0 HB0 c0 c1
  cases hgd : goodF gs fs k with
  | false =>
    clear hgd
    have HSu := Lib.hid (ClashSure_any W5 HU5.out.ways)
    go_wp2_with fail
    refine HSu.out.mono ?_
    rintro e W6 ⟨rfl, hb6⟩
    have HB6 := Lib.hid (HB5.out.trans (hb6.mono HB5.out.size))
    clear hb6
    go_wp2_with fail
    go_ret
    exact ⟨rfl, HB6.out⟩
  | true =>
    have hcf : (clashF gs fs k).1 = 0 := by
      unfold goodF at hgd
      rw [Bool.and_eq_true, decide_eq_true_eq] at hgd
      exact hgd.1
    clear hgd
    have c0 := HC5.out.cell 0
    have c1 := HC5.out.cell 1
    have HOf := Lib.hid (Of_any gv _ gs fs k W5 Hk.out HU5.out)
    go_wp2_with fail
    refine HOf.out.mono ?_
    rintro e W6 ⟨v6, rfl, ho6, hb6⟩
    have hcz := clashF_zero hcf
    rw [hcz.1]
    obtain ⟨f, hf, hk0, hk1, hph, hho, hbo⟩ := hcz.2.2
    obtain ⟨n, rfl⟩ : ∃ n : Nat, k = (n : Int) := ⟨k.toNat, by omega⟩
    have hnl : n < l := by rw [Hl.out] at hk1; omega
    obtain ⟨fb, fo, f', bA, bc, rfl, hfb, hfn, f0, f1, f2, f3, _⟩ := FunsAt.one HU.out.funs hnl
    obtain rfl : f = f' := by
      rw [Int.toNat_natCast] at hf
      rw [hf] at hfn
      exact Option.some.inj hfn
    obtain ⟨nr, hnr⟩ : ∃ nr : Nat, f.regs = (nr : Int) := ⟨f.regs.toNat, by have := hho.p0; have := hho.r0; omega⟩
    have hnr1 : nr ≤ 100 := by have := hho.r1; omega
    rw [hnr] at f2
    have hof : ofF gs fs (n : Int) = (List.range nr).map fun (a : Nat) => listS nr (ofS f.blocks (a : Int)) := by
      unfold ofF
      rw [if_neg (by rw [hcf]; simp), hf]
      show ofRows f = _
      unfold ofRows
      rw [hnr]
      simp
    rw [hof] at ho6
    have hn1 : (n : Int) < (l : Int) := by omega
    have HB6 := Lib.hid (HB5.out.trans (hb6.mono HB5.out.size))
    have HC6 := Lib.hid (HC5.out.below hb6 HC5.out.lt)
    have HB7 : Hid (Below w.heap.size w (W6.alloc (.cells #[.int .i64 0, .int .i64 0] 28))) := Lib.hid (HB6.out.alloc HB6.out.size _)
    have HC7 := Lib.hid (HC6.out.alloc (.cells #[.int .i64 0, .int .i64 0] 28))
    have HF7 : Hid (Blk (W6.alloc (.cells #[.int .i64 0, .int .i64 0] 28)) W6.heap.size 28 #[.int .i64 0, .int .i64 0]) := Lib.hid (Blk.new _ _ _)
    have hor := ho6.below (w' := W6.alloc (.cells #[.int .i64 0, .int .i64 0] 28)) ((Below.refl _ _).alloc (Nat.le_refl _) _) rfl
    obtain ⟨vA, vc, rfl⟩ := hor.form
    rw [List.length_map, List.length_range] at hor ⊢
    have HOr := Lib.hid hor
    have f2 := (bcell HB7.out hfb).trans f2
    clear hb6 ho6 HC6 HB6 HC5 HB5 HU5 HOf c0 c1 hcz hf hk0 hk1 hph hho hbo hfn f0 f1 f3 hcf hof hor hnr
    go_upto_region 4 with fail
    generalize W6.alloc (.cells #[.int .i64 0, .int .i64 0] 28) = W7 at *
    generalize W6.heap.size = g8 at *
    have x0 := HF7.out.cell 0
    have c1 := HC7.out.cell 1
    have HSu := Lib.hid (ClashSure_any W7 (HU.out.later HB7.out).ways)
    go_wp2_with fail
    refine HSu.out.mono ?_
    rintro e W8 ⟨rfl, hb8⟩
    have HB8 := Lib.hid (HB7.out.trans (hb8.mono HB7.out.size))
    have HO8 := Lib.hid (HOr.out.below hb8 rfl)
    clear hb8 HB7 HC7 HF7 HOr HSu x0 c1 f2 HU
    have HRow : Hid (∀ a, a < nr → ∃ g0 rA rc, vA = some ⟨g0, 0, none⟩ ∧ W8.cell? ⟨g0, a, none⟩ = some (.slice rA (listS nr (ofS f.blocks (a : Int))).length rc) ∧ IntsAt W8 W8.heap.size (.slice rA (listS nr (ofS f.blocks (a : Int))).length rc) (listS nr (ofS f.blocks (a : Int)))) := Lib.hid (fun a ha => by
      obtain ⟨g0, rA, rc, xs, h1, h2, h3, h4⟩ := HO8.out.at_ (r := a) (by simpa using ha)
      rw [List.getElem?_map, List.getElem?_range ha] at h2
      obtain rfl : listS nr (ofS f.blocks (a : Int)) = xs := Option.some.inj h2
      exact ⟨g0, rA, rc, h1, h3, h4⟩)
    go_upto_region 7 with fail
    go_loopg [7] nr (fun gk i wx => ∃ a : Nat, a + gk = nr ∧ i = .int .i64 (a : Int) ∧ wx = W8)
    case atStart => exact ⟨0, by omega, rfl, rfl⟩
    case round =>
      obtain ⟨a, ha, rfl, rfl⟩ := hrel
      rcases gk with _ | mk
      · have hat : ¬ (a : Int) < (nr : Int) := by omega
        go_wp2_with fail
        go_ret
        exact ⟨rfl, HB8.out⟩
      · have hat : (a : Int) < (nr : Int) := by omega
        have ha0 : (0 : Int) ≤ (a : Int) := Int.natCast_nonneg a
        have han : a < nr := by omega
        obtain ⟨g0, rA, rc, rfl, s0, hra⟩ := HRow.out a han
        obtain ⟨L, hL⟩ : ∃ L, listS nr (ofS f.blocks (a : Int)) = L := ⟨_, rfl⟩
        rw [hL] at s0 hra
        have HL := Lib.hid hL
        obtain ⟨ll, hll⟩ : ∃ ll, L.length = ll := ⟨_, rfl⟩
        rw [hll] at s0 hra
        have Hll := Lib.hid hll
        obtain ⟨A', c', e', hr1, hr2, hr3⟩ := hra
        obtain rfl : A' = rA := ((Value.slice.inj e').1).symm
        rw [hll] at hr3
        have Hr3 := Lib.hid hr3
        have hll100 : ll ≤ 100 := by
          have h := listS_len nr (ofS f.blocks (a : Int))
          rw [hL, hll] at h
          omega
        clear hL hll e' hr1 hr2 hr3
        go_upto_region 10 with fail
        go_loopg [8] ll (fun gk i wx => ∃ q : Nat, q + gk = ll ∧ i = .int .i64 (q : Int) ∧ wx = wr)
        case atStart => exact ⟨0, by omega, rfl, rfl⟩
        case round =>
          obtain ⟨q, hq, rfl, rfl⟩ := hrel
          rcases gk with _ | nk
          · have hqt : ¬ (q : Int) < (ll : Int) := by omega
            go_wp2_with fail
            go_roundg mk
            case measure => omega
            case rel => exact ⟨a + 1, by omega, by go_num, rfl⟩
          · have hqt : (q : Int) < (ll : Int) := by omega
            have hq0 : (0 : Int) ≤ (q : Int) := Int.natCast_nonneg q
            obtain ⟨rb, ro, rfl, _, hrc⟩ := Hr3.out (by omega)
            obtain ⟨b, hb⟩ : ∃ b, L[q]? = some b := ⟨_, List.getElem?_eq_getElem (by rw [Hll.out]; omega)⟩
            have r0 := hrc q b hb
            have hbm := List.mem_of_getElem? hb
            rw [← HL.out, listS_mem] at hbm
            obtain ⟨hb0, hb1, hb2⟩ := hbm
            have hblt : ¬ b < 0 := by omega
            have hbge : ¬ b ≥ (nr : Int) := by omega
            have hba : (b == (a : Int)) = false := by
              by_cases e : b = (a : Int)
              · rw [e, ofS_self] at hb2; cases hb2
              · simpa using e
            obtain ⟨nb, rfl⟩ : ∃ nb : Nat, b = (nb : Int) := ⟨b.toNat, by omega⟩
            obtain ⟨_, qA, qc, e1, t0, hqa⟩ := HRow.out nb (by omega)
            injection e1 with e1
            injection e1 with e1
            subst e1
            have HHas := Lib.hid (hasInt_any _ _ (a : Int) _ wr hqa)
            have hhas : hasN (listS nr (ofS f.blocks (nb : Int))) (a : Int) = true := hasN_iff.2 (listS_mem.2 ⟨ha0, hat, by rw [ofS_turn]; exact hb2⟩)
            rw [hhas] at HHas
            rcases Nat.eq_zero_or_pos q with hz | hz
            · subst hz
              have hqg : ¬ ((0 : Nat) : Int) > 0 := by omega
              rw [Nat.add_zero] at r0
              clear hhas hqa hrc hb hb2
              go_wp2_with fail
              refine HHas.out.mono ?_
              rintro e w' ⟨rfl, rfl⟩
              go_wp2_with fail
              go_roundg nk
              case measure => omega
              case rel => exact ⟨1, by omega, by go_num, rfl⟩
            · have hqg : (q : Int) > 0 := by omega
              obtain ⟨pb, hpb⟩ : ∃ pb, L[q - 1]? = some pb := ⟨_, List.getElem?_eq_getElem (by rw [Hll.out]; omega)⟩
              have Hr1 := Lib.hid (hrc (q - 1) pb hpb)
              have hpl : ¬ pb ≥ (nb : Int) := by
                have := pairwise_before (HL.out ▸ listS_rising nr (ofS f.blocks (a : Int))) hpb hb (by omega)
                omega
              have hq1 : (0 : Int) ≤ (q : Int) - 1 := by omega
              have hq2 : (q : Int) - 1 < (ll : Int) := by omega
              have hq3 : ((q : Int) - 1).toNat = q - 1 := by omega
              have hq63 : -9223372036854775808 ≤ (q : Int) - 1 := by omega
              clear hhas hqa hrc hb hb2
              go_wp2_with fail
              refine HHas.out.mono ?_
              rintro e w' ⟨rfl, rfl⟩
              clear r0
              have r1 := Hr1.out
              go_wp2_with fail
              go_roundg nk
              case measure => omega
              case rel => exact ⟨q + 1, by omega, by go_num, rfl⟩
end Go.Proofs.YtgnkkgbjcodihaaDoor
