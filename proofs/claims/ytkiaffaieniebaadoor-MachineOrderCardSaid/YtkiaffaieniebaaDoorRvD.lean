/-
  The law MachineOrder walks to true.
  Conditions: the numbers are of 64 bits; the table shapes lies as its initialiser lays it.
-/
import Derived.Test.YtkiaffaieniebaaDoorRvC
namespace Go.Proofs.YtkiaffaieniebaaDoor
open Go.RowKit

set_option maxRecDepth 100000 in
set_option maxHeartbeats 2000000 in
theorem MachineOrder_any (va vb vc vi : Value) (la lb lc li : List Int) (fz : Int) (w : World) (ha : IntsAt w w.heap.size va la) (hb : IntsAt w w.heap.size vb lb) (hc : IntsAt w w.heap.size vc lc) (hi : IntsAt w w.heap.size vi li)
    (hia : ∀ x ∈ la, I64 x) (hib : ∀ x ∈ lb, I64 x) (hic : ∀ x ∈ lc, I64 x) (hf : I64 fz) (ht : Tab w) :
    Calls Tryd.prog 9 #[va, vb, vc, vi, .int .i64 fz] w fun e w' => e = .returned (.bool true) ∧ Below w.heap.size w w' := by
  obtain ⟨n, hn⟩ : ∃ n : Nat, fz % 600 = n := ⟨(fz % 600).toNat, by omega⟩
  have hn6 : n < 600 := by omega
  have hx8 : (li.take 8).length ≤ 30 := by rw [List.length_take]; omega
  have HN := Lib.hid hn
  have HF := Lib.hid hf
  have HT := Lib.hid ht
  have HIn := Lib.hid hi
  obtain ⟨Aa, na, ka, hva⟩ : ∃ A n c, va = .slice A n c := by obtain ⟨A, c, e, _⟩ := ha; exact ⟨A, _, c, e⟩
  obtain ⟨Ab, nb, kb, hvb⟩ : ∃ A n c, vb = .slice A n c := by obtain ⟨A, c, e, _⟩ := hb; exact ⟨A, _, c, e⟩
  obtain ⟨Ac, nc, kc, hvc⟩ : ∃ A n c, vc = .slice A n c := by obtain ⟨A, c, e, _⟩ := hc; exact ⟨A, _, c, e⟩
  have key : ∀ {v : Value} {l : List Int}, IntsAt w w.heap.size v l → (∀ x ∈ l, I64 x) → ∀ W, Below w.heap.size w W → Calls Tryd.prog 26 #[v, .int .i64 20, .int .i64 3] W fun e w' => ∃ v', e = .returned v' ∧ OwnMacs w' W.heap.size v' (codeOf l 20 3) ∧ Below W.heap.size W w' :=
    fun h1 h2 W hW => codeFrom (n := 20) h1 h2 (by omega) W hW
  have hca := key ha hia
  have hcb := key hb hib
  have hcc := key hc hic
  have fa := fine3_code (n := 20) hia (by omega)
  have fb := fine3_code (n := 20) hib (by omega)
  have fc := fine3_code (n := 20) hic (by omega)
  have ga : ∀ m ∈ codeOf la 20 3, m.op = 44 → 0 ≤ m.n ∧ m.n < 3 := fun m => codeOf_call (by omega)
  have gb : ∀ m ∈ codeOf lb 20 3, m.op = 44 → 0 ≤ m.n ∧ m.n < 3 := fun m => codeOf_call (by omega)
  have gc : ∀ m ∈ codeOf lc 20 3, m.op = 44 → 0 ≤ m.n ∧ m.n < 3 := fun m => codeOf_call (by omega)
  generalize codeOf la 20 3 = ca at hca fa ga
  generalize codeOf lb 20 3 = cb at hcb fb gb
  generalize codeOf lc 20 3 = cc at hcc fc gc
  subst hva hvb hvc
  have HCode : Hid (∀ k, ∀ W, Below w.heap.size w W → Calls Tryd.prog 26 #[val3 (.slice Aa na ka) (.slice Ab nb kb) (.slice Ac nc kc) k, .int .i64 20, .int .i64 3] W fun e w' => ∃ v', e = .returned v' ∧ OwnMacs w' W.heap.size v' (val3 ca cb cc k) ∧ Below W.heap.size W w') :=
    Lib.hid fun k => match k with
      | 0 => hca
      | 1 => hcb
      | _ + 2 => hcc
  have HFine : Hid (∀ k, Fine3 (val3 ca cb cc k)) := Lib.hid (val3_all (p := Fine3) fa fb fc)
  have HCall : Hid (∀ k m, m ∈ val3 ca cb cc k → m.op = 44 → 0 ≤ m.n ∧ m.n < 3) := Lib.hid (val3_all (p := fun l : List Mac => ∀ m : Mac, m ∈ l → m.op = 44 → 0 ≤ m.n ∧ m.n < 3) ga gb gc)
  have HBF : Hid (∀ {w : World} {v : Value} {lo : Nat} {ms : List Mac}, Fine3 ms → OwnMacs w lo v ms → Calls Tryd.prog 27 #[v] w fun e w' => ∃ A c, e = .returned (.slice A (codeL ms).length c) ∧ OwnB w' w.heap.size (.slice A (codeL ms).length c) (codeL ms) ∧ Below w.heap.size w w') := Lib.hid fun h1 h2 => codeBytes3 h2 h1
  obtain ⟨X, hX⟩ : ∃ X, (runS [ca, cb, cc] (beginS kGlobs (li.take 8)) n).told = X := ⟨_, rfl⟩
  obtain ⟨Y, hY⟩ : ∃ Y, (runS [ca.map swM, cc.map swM, cb.map swM] (beginS kGlobs (li.take 8)) n).told = Y := ⟨_, rfl⟩
  have hlaw : sameB X Y = true := by rw [← hX, ← hY]; exact order_law ca cb cc _ _ n
  have HLaw := Lib.hid hlaw
  have HX : Hid (∀ (gv rv : Value) (W : World), GlobsAt W W.heap.size gv kGlobs → RoutsAt W W.heap.size rv (thrR ⟨#[102]⟩ ⟨#[107]⟩ ca cb cc) → Tab W → ∀ (base : Nat) (iv : Value) (V : World), Below W.heap.size W V → V.ownsRow base 3 1 iv (li.take 8).length (intV (li.take 8)) →
    Calls Tryd.prog 14 #[.agg #[gv, rv], iv, .int .i64 (n : Int)] V fun e w' => ∃ ov, e = .returned (runV X ov (0, 0)) ∧ w'.ownsRow V.heap.size 3 1 ov X.out.length (intV X.out) ∧ Below V.heap.size V w') :=
    Lib.hid fun gv rv W h1 h2 h3 base iv V hV hi => by rw [← hX]; exact Run_thr names_fk fa fb fc h1 h2 h3 hx8 (by omega) hV hi
  have HY : Hid (∀ (gv rv : Value) (W : World), GlobsAt W W.heap.size gv kGlobs → RoutsAt W W.heap.size rv (thrR ⟨#[120]⟩ ⟨#[121]⟩ (ca.map swM) (cc.map swM) (cb.map swM)) → Tab W → ∀ (base : Nat) (iv : Value) (V : World), Below W.heap.size W V → V.ownsRow base 3 1 iv (li.take 8).length (intV (li.take 8)) →
    Calls Tryd.prog 14 #[.agg #[gv, rv], iv, .int .i64 (n : Int)] V fun e w' => ∃ ov, e = .returned (runV Y ov (0, 0)) ∧ w'.ownsRow V.heap.size 3 1 ov Y.out.length (intV Y.out) ∧ Below V.heap.size V w') :=
    Lib.hid fun gv rv W h1 h2 h3 base iv V hV hi => by rw [← hY]; exact Run_thr names_xy (fine3_sw fa) (fine3_sw fc) (fine3_sw fb) h1 h2 h3 hx8 (by omega) hV hi
  obtain ⟨xs, hxs⟩ : ∃ xs, li.take 8 = xs := ⟨_, rfl⟩
  have HXS := Lib.hid hxs
  rw [hxs] at HX HY
  clear ha hb hc hi hia hib hic hf ht hn hx8 hX hY hxs hlaw key hca hcb hcc fa fb fc ga gb gc
  go_enter Tryd.func9, Tryd.ntmps9
  go_wp2_with fail
  refine (Picked_any fz 600 _ (by omega) (by omega) HF.out).mono ?_
  rintro e w' ⟨rfl, rfl⟩
  rw [HN.out]
  go_wp2_with fail
  have HA1 : Hid (Below w.heap.size w (w.alloc (.cells #[.slice Aa na ka, .slice Ab nb kb, .slice Ac nc kc] 26))) := Lib.hid ((Below.refl _ _).alloc (Nat.le_refl _) _)
  have HKr : Hid (Blk (w.alloc (.cells #[.slice Aa na ka, .slice Ab nb kb, .slice Ac nc kc] 26)) w.heap.size 26 #[.slice Aa na ka, .slice Ab nb kb, .slice Ac nc kc]) := Lib.hid (Blk.new _ _ _)
  generalize w.alloc (.cells #[.slice Aa na ka, .slice Ab nb kb, .slice Ac nc kc] 26) = W1 at *
  refine (KGlobals_any W1).mono ?_
  rintro e w1 ⟨Ag, ng, cg, rfl, hg, hb1⟩
  have HG := Lib.hid hg
  have HB1 := Lib.hid hb1
  clear hg hb1
  go_wp2_with fail
  have HKg : Hid (Blk (w1.alloc (.cells #[.slice Ag ng cg, .slice none 0 0] 36)) w1.heap.size 36 #[.slice Ag ng cg, .slice none 0 0]) := Lib.hid (Blk.new _ _ _)
  have HA2 : Hid (Below w1.heap.size w1 (w1.alloc (.cells #[.slice Ag ng cg, .slice none 0 0] 36))) := Lib.hid ((Below.refl _ _).alloc (Nat.le_refl _) _)
  generalize w1.alloc (.cells #[.slice Ag ng cg, .slice none 0 0] 36) = W2 at *
  refine (KGlobals_any W2).mono ?_
  rintro e w3 ⟨Ah, nh, ch, rfl, hh, hb3⟩
  have HH := Lib.hid hh
  have HB3 := Lib.hid hb3
  clear hh hb3
  go_wp2_with fail
  have HKh : Hid (Blk (w3.alloc (.cells #[.slice Ah nh ch, .slice none 0 0] 36)) w3.heap.size 36 #[.slice Ah nh ch, .slice none 0 0]) := Lib.hid (Blk.new _ _ _)
  have HA3 : Hid (Below w3.heap.size w3 (w3.alloc (.cells #[.slice Ah nh ch, .slice none 0 0] 36))) := Lib.hid ((Below.refl _ _).alloc (Nat.le_refl _) _)
  generalize w3.alloc (.cells #[.slice Ah nh ch, .slice none 0 0] 36) = w2 at *
  have HZ : Hid (w.heap.size < W1.heap.size ∧ W1.heap.size ≤ w1.heap.size ∧ w1.heap.size < W2.heap.size ∧ W2.heap.size ≤ w3.heap.size ∧ w3.heap.size < w2.heap.size) :=
    Lib.hid ⟨HKr.out.lt, HB1.out.size, HKg.out.lt, HB3.out.size, HKh.out.lt⟩
  have HB12 : Hid (Below w1.heap.size w1 w2) := Lib.hid ((HA2.out.trans (HB3.out.mono HA2.out.size)).trans (HA3.out.mono (by have := HZ.out; omega)))
  have HB32 : Hid (Below w3.heap.size w3 w2) := HA3
  have HBw : Hid (Below w.heap.size w w2) := Lib.hid ((HA1.out.trans (HB1.out.mono (by have := HZ.out; omega))).trans (HB12.out.mono (by have := HZ.out; omega)))
  have HR : Hid (Blk w2 w.heap.size 26 #[.slice Aa na ka, .slice Ab nb kb, .slice Ac nc kc]) := Lib.hid ((HKr.out.below HB1.out HKr.out.lt).below HB12.out (by have := HZ.out; omega))
  have HGg : Hid (∀ W, Fro w2 w1.heap.size w3.heap.size W → GlobsAt W W.heap.size (.slice Ag ng cg) kGlobs) := Lib.hid fun W hW => by
    have := HZ.out
    have := hW.size
    exact (HG.out W (hW.turn HB12.out (.inr (Nat.le_refl _)) (.inr (by omega)))).more (by omega)
  have HGh : Hid (∀ W, Fro w2 w1.heap.size w3.heap.size W → GlobsAt W W.heap.size (.slice Ah nh ch) kGlobs) := Lib.hid fun W hW => by
    have := HZ.out
    have := hW.size
    exact (HH.out W (hW.turn HB32.out (.inl (by omega)) (.inr (Nat.le_refl _)))).more (by omega)
  have HP0 : Hid (Pair w2 w1.heap.size w3.heap.size (.slice Ag ng cg) (.slice Ah nh ch) (.slice none 0 0) (.slice none 0 0) (.slice none 0 0) [] [] [] [] w2) := Lib.hid
    ⟨(HKg.out.below HB3.out HKg.out.lt).below HA3.out (by have := HZ.out; omega), HKh.out, by have := HZ.out; omega, World.ownsRow_nil _ _ _ _, World.ownsRow_nil _ _ _ _, fun k h => by simp [Value.ownBlock] at h, trivial, trivial, Fro.refl _ _ _⟩
  have HLow : Hid (∀ W, Fro w2 w1.heap.size w3.heap.size W → Below w.heap.size w W) := Lib.hid fun W hW => hW.toBelow HBw.out (by have := HZ.out; omega) (by have := HZ.out; omega) (by have := HZ.out; omega)
  have HRow : Hid (∀ W, Fro w2 w1.heap.size w3.heap.size W → ∀ k, k < 3 → W.cell? ⟨w.heap.size, k, none⟩ = some (val3 (.slice Aa na ka) (.slice Ab nb kb) (.slice Ac nc kc) k)) := Lib.hid fun W hW k hk => by
    rw [hW.cell (by have := HZ.out; omega) (by have := HZ.out; omega) (by have := HZ.out; omega), HR.out.cell]
    match k, hk with
    | 0, _ => rfl
    | 1, _ => rfl
    | 2, _ => rfl
    | k + 3, h => omega
  clear HG HH HKg HKh HA1 HA2 HA3 HKr HB1 HB3 HB12 HB32 HBw HR
  obtain ⟨g, hg⟩ : ∃ g, w1.heap.size = g := ⟨_, rfl⟩
  obtain ⟨h, hh⟩ : ∃ g, w3.heap.size = g := ⟨_, rfl⟩
  rw [hg, hh] at HGg HGh HP0 HLow HRow
  simp only [hg, hh]
  clear hg hh HZ
  obtain ⟨R1, hR1⟩ : ∃ r, thrR ⟨#[102]⟩ ⟨#[107]⟩ ca cb cc = r := ⟨_, rfl⟩
  obtain ⟨R2, hR2⟩ : ∃ r, thrR ⟨#[120]⟩ ⟨#[121]⟩ (ca.map swM) (cc.map swM) (cb.map swM) = r := ⟨_, rfl⟩
  have HT1 : Hid (∀ k, k < 3 → R1.take (k + 1) = R1.take k ++ [⟨val3 mainB ⟨#[102]⟩ ⟨#[107]⟩ k, codeL (val3 ca cb cc k)⟩]) := Lib.hid fun k hk => by rw [← hR1]; exact thr_at _ _ _ _ _ hk
  have HT2 : Hid (∀ k, k < 3 → R2.take (k + 1) = R2.take k ++ [⟨val3 mainB ⟨#[120]⟩ ⟨#[121]⟩ k, codeL ((val3 ca cb cc (swN k)).map swM)⟩]) := Lib.hid fun k hk => by rw [← hR2, val3_sw _ _ _ hk, ← map_val3]; exact thr_at _ _ _ _ _ hk
  have HL1 : Hid (∀ k, k ≤ 3 → (R1.take k).length = k) := Lib.hid fun k hk => by rw [← hR1]; exact thr_len _ _ _ _ _ hk
  have HL2 : Hid (∀ k, k ≤ 3 → (R2.take k).length = k) := Lib.hid fun k hk => by rw [← hR2]; exact thr_len _ _ _ _ _ hk
  have HE1 : Hid (R1.take 3 = R1) := Lib.hid (by rw [← hR1]; rfl)
  have HE2 : Hid (R2.take 3 = R2) := Lib.hid (by rw [← hR2]; rfl)
  rw [hR1] at HX
  rw [hR2] at HY
  clear hR1 hR2
  go_loopw [15] (fun i wr => ∃ (k : Nat) (A B : Option Addr) (c d : Nat) (xs1 ys1 : List Value), k ≤ 3 ∧ i = .int .i64 k ∧ Hid (Pair w2 g h (.slice Ag ng cg) (.slice Ah nh ch) (.slice A k c) (.slice A k c) (.slice B k d) (R1.take k) (R2.take k) xs1 ys1 wr)) (fun i _ => 3 - (intOf i).toNat)
  case atStart => exact ⟨0, none, none, 0, 0, [], [], by omega, rfl, HP0⟩
  case round =>
    clear HP0
    obtain ⟨k, A, B, c, d, xs1, ys1, hk, rfl, HP⟩ := hrel
    by_cases hlt : k < 3
    · have c1 := HRow.out _ HP.out.fro k hlt
      obtain ⟨q, hq⟩ : ∃ q, swN k = q := ⟨_, rfl⟩
      have HQ := Lib.hid hq
      have hq3 : q < 3 := hq ▸ swN_lt hlt
      have hs1 : IntKind.i64.wrap (3 - (k : Int)) = 3 - (k : Int) := by rw [IntKind.wrap_i64]; omega
      have hs2 : (3 - (k : Int)).tmod 3 = (q : Int) := by rw [sw_num (by omega) (by omega), Int.toNat_natCast, hq]
      have hk3 : (k : Int) < 3 := by omega
      have hq4 : (q : Int) < 3 := by omega
      clear hq
      go_wp2_with fail
      refine (HCode.out k _ (HLow.out _ HP.out.fro)).mono ?_
      rintro e w4 ⟨lv, rfl, hl, hb4⟩
      obtain ⟨Al, nl, cl, hlv⟩ : ∃ A n c, lv = .slice A n c := by obtain ⟨A, c, e⟩ := row_form hl; exact ⟨A, _, c, e⟩
      subst hlv
      have HP4 := Lib.hid (HP.out.below hb4)
      have HL4 : Hid (OwnMacs w4 wr.heap.size (.slice Al nl cl) (val3 ca cb cc k)) := Lib.hid hl
      have HZ4 : Hid (wr.heap.size ≤ w4.heap.size) := Lib.hid hb4.size
      clear hl hb4 c1
      have c2 := HRow.out _ HP4.out.fro q hq3
      go_wp2_with fail
      refine (HCode.out q _ (HLow.out _ HP4.out.fro)).mono ?_
      rintro e w5 ⟨ov, rfl, ho, hb5⟩
      have HP5 := Lib.hid (HP4.out.below hb5)
      have HL5 := Lib.hid (HL4.out.below hb5 rfl)
      have HFq := Lib.hid (HFine.out q)
      have HCq := Lib.hid (HCall.out q)
      have HFk := Lib.hid (HFine.out k)
      have hT2 := HT2.out k hlt
      rw [HQ.out] at hT2
      have HTq := Lib.hid hT2
      have HTk := Lib.hid (HT1.out k hlt)
      have HLk := Lib.hid (And.intro (HL1.out k hk) (HL2.out k hk))
      clear hT2 c2
      generalize val3 ca cb cc q = ms at *
      generalize val3 ca cb cc k = lc at *
      obtain ⟨hl5, _, mlast, hmlast, _⟩ := (code_ok_iff ms).1 HFq.out.1
      have hpos : 0 < ms.length := by have := (List.getElem?_eq_some_iff.1 hmlast).1; omega
      obtain ⟨b, cap, hov, hbE⟩ : ∃ b cap, ov = .slice (some ⟨b, 0, none⟩) ms.length cap ∧ w4.heap.size ≤ b := by
        rcases ho.2 with ⟨_, h0⟩ | ⟨b, cap, cur, e, h1, _⟩
        · omega
        · exact ⟨b, cap, e, h1⟩
      subst hov
      obtain ⟨len, hlen⟩ : ∃ len, ms.length = len := ⟨_, rfl⟩
      have HLen := Lib.hid hlen
      rw [hlen] at hl5 hpos ho
      simp only [hlen]
      have HO5 : Hid (OwnMacs w5 w4.heap.size (.slice (some ⟨b, 0, none⟩) len cap) (mapTo ms 0)) := Lib.hid (by rw [mapTo_zero]; exact ho)
      have HNe : Hid (∀ j, (Value.slice Al nl cl).ownBlock = some j → j ≠ b) := Lib.hid fun j hj => by
        have := (World.ownsRow.lt HL4.out j hj).2
        omega
      have HbD : Hid (w2.heap.size ≤ b) := Lib.hid (Nat.le_trans HP4.out.fro.size hbE)
      clear ho hb5 hlen hmlast hbE HZ4 HL4 HP4 HP
      go_wp2_with fail
      go_loopw [18] (fun jv wx => ∃ j : Nat, j ≤ len ∧ jv = .int .i64 j ∧ Hid (Pair w2 g h (.slice Ag ng cg) (.slice Ah nh ch) (.slice A k c) (.slice A k c) (.slice B k d) (R1.take k) (R2.take k) xs1 ys1 wx) ∧ Hid (OwnMacs wx wr.heap.size (.slice Al nl cl) lc) ∧ Hid (OwnMacs wx w4.heap.size (.slice (some ⟨b, 0, none⟩) len cap) (mapTo ms j))) (fun jv _ => len - (intOf jv).toNat)
      case atStart => exact ⟨0, by omega, rfl, HP5, HL5, HO5⟩
      case round =>
        clear HP5 HL5 HO5
        obtain ⟨j, hj, rfl, HPj, HLj, HOj⟩ := hrel
        by_cases hjl : j < len
        · obtain ⟨⟨op, dst, a, b', nn⟩, hm⟩ : ∃ m, ms[j]? = some m := ⟨ms[j]'(by rw [HLen.out]; exact hjl), List.getElem?_eq_getElem _⟩
          obtain ⟨d0, d4, ⟨cs, hbk⟩, _⟩ := HOj.out.cellsAt hm
          have f4 := hbk.frozen (j * 5 + 4)
          have HBk := Lib.hid hbk
          have Hm := Lib.hid hm
          simp only at d0 d4
          have hj0 : (0 : Int) ≤ (j : Int) := Int.natCast_nonneg _
          have hj1 : (j : Int) < (len : Int) := by omega
          by_cases h44 : op = 44
          · subst h44
            obtain ⟨n0, n3⟩ := HCq.out _ (List.mem_of_getElem? hm) rfl
            simp only at n0 n3
            have hs3 : IntKind.i64.wrap (3 - nn) = 3 - nn := by rw [IntKind.wrap_i64]; omega
            have hs4 : (3 - nn).tmod 3 = ((swN nn.toNat : Nat) : Int) := sw_num n0 n3
            clear hm hbk n0 n3
            go_wp2_with fail
            go_round
            case rel => exact ⟨j + 1, by omega, by go_num, Lib.hid (HPj.out.far HBk.out HbD.out _), Lib.hid (ownsRow_setCell_other HLj.out (by cases hb : (Value.slice Al nl cl).ownBlock with | none => simp | some x => simpa using HNe.out x hb) _), Lib.hid (HOj.out.call HLen.out Hm.out rfl)⟩
            case measure => simp [intOf]; omega
          · have hb44 : (op == 44) = false := by simpa using h44
            clear hm hbk
            go_wp2_with fail
            go_round
            case rel => exact ⟨j + 1, by omega, by go_num, HPj, HLj, Lib.hid (by rw [mapTo_same Hm.out h44]; exact HOj.out)⟩
            case measure => simp [intOf]; omega
        · obtain rfl : len = j := by omega
          have hO := HOj.out
          rw [← HLen.out, mapTo_end, HLen.out] at hO
          have HOe := Lib.hid hO
          clear hO HOj
          have HPq := HPj
          have HLq := HLj
          have HS1 : Hid ((#[.string ⟨#[109, 97, 105, 110]⟩, .string ⟨#[102]⟩, .string ⟨#[107]⟩] : Array Value)[k]? = some (.string (val3 mainB ⟨#[102]⟩ ⟨#[107]⟩ k))) := Lib.hid (by match k, hlt with | 0, _ => rfl | 1, _ => rfl | 2, _ => rfl | k + 3, h => omega)
          have HS2 : Hid ((#[.string ⟨#[109, 97, 105, 110]⟩, .string ⟨#[120]⟩, .string ⟨#[121]⟩] : Array Value)[k]? = some (.string (val3 mainB ⟨#[120]⟩ ⟨#[121]⟩ k))) := Lib.hid (by match k, hlt with | 0, _ => rfl | 1, _ => rfl | 2, _ => rfl | k + 3, h => omega)
          have HI : Hid ((0 : Int) ≤ (k : Int) ∧ (k : Int) < 3) := Lib.hid ⟨by omega, by omega⟩
          clear HPj HLj hj hs1 hs2 hq4 hk3
          go_upto_region 15 with fail
          have HW0 : Hid (AppRun ⟨w2, g, h, .slice Ag ng cg, .slice Ah nh ch, .slice A k c, .slice B k d, R1.take k, R2.take k, xs1, ys1, #[.string ⟨#[109, 97, 105, 110]⟩, .string ⟨#[102]⟩, .string ⟨#[107]⟩], k, val3 mainB ⟨#[102]⟩ ⟨#[107]⟩ k, codeL lc, wr⟩ (pv6 (.pointer (some ⟨g, 1, none⟩)) (.slice A k c) (.int .i64 (k : Int)) (.string (val3 mainB ⟨#[102]⟩ ⟨#[107]⟩ k)) (.slice Al nl cl)) (fun _ => none) { wr with drawn := wr.drawn + 1 }) := Lib.hid (AppRun.start (Pair.below HPq.out (below_drew (Below.refl _ _))) (fun v l E ho => ho.below (below_drew (Below.refl _ _)) rfl) (Nat.le_refl _))
          have HNo : Hid (∀ j ∈ slots7, (pv6 (.pointer (some ⟨g, 1, none⟩)) (.slice A k c) (.int .i64 (k : Int)) (.string (val3 mainB ⟨#[102]⟩ ⟨#[107]⟩ k)) (.slice Al nl cl)) j = none) := Lib.hid (pv6_no _ _ _ _ _)
          have HV : Hid ((pv6 (.pointer (some ⟨g, 1, none⟩)) (.slice A k c) (.int .i64 (k : Int)) (.string (val3 mainB ⟨#[102]⟩ ⟨#[107]⟩ k)) (.slice Al nl cl)) 0 = some (.pointer (some ⟨g, 1, none⟩)) ∧ (pv6 (.pointer (some ⟨g, 1, none⟩)) (.slice A k c) (.int .i64 (k : Int)) (.string (val3 mainB ⟨#[102]⟩ ⟨#[107]⟩ k)) (.slice Al nl cl)) 1 = some (.slice A k c) ∧ (pv6 (.pointer (some ⟨g, 1, none⟩)) (.slice A k c) (.int .i64 (k : Int)) (.string (val3 mainB ⟨#[102]⟩ ⟨#[107]⟩ k)) (.slice Al nl cl)) 3 = some (.int .i64 (k : Int)) ∧ (pv6 (.pointer (some ⟨g, 1, none⟩)) (.slice A k c) (.int .i64 (k : Int)) (.string (val3 mainB ⟨#[102]⟩ ⟨#[107]⟩ k)) (.slice Al nl cl)) 5 = some (.string (val3 mainB ⟨#[102]⟩ ⟨#[107]⟩ k)) ∧ (pv6 (.pointer (some ⟨g, 1, none⟩)) (.slice A k c) (.int .i64 (k : Int)) (.string (val3 mainB ⟨#[102]⟩ ⟨#[107]⟩ k)) (.slice Al nl cl)) 6 = some (.slice Al nl cl) ∧ (pv6 (.pointer (some ⟨g, 1, none⟩)) (.slice A k c) (.int .i64 (k : Int)) (.string (val3 mainB ⟨#[102]⟩ ⟨#[107]⟩ k)) (.slice Al nl cl)) 11 = some (.pointer (some ⟨g, 1, none⟩))) := Lib.hid ⟨rfl, rfl, rfl, rfl, rfl, rfl⟩
          generalize pv6 (.pointer (some ⟨g, 1, none⟩)) (.slice A k c) (.int .i64 (k : Int)) (.string (val3 mainB ⟨#[102]⟩ ⟨#[107]⟩ k)) (.slice Al nl cl) = pv at *
          refine wp_region_keeps (AppRun ⟨w2, g, h, .slice Ag ng cg, .slice Ah nh ch, .slice A k c, .slice B k d, R1.take k, R2.take k, xs1, ys1, #[.string ⟨#[109, 97, 105, 110]⟩, .string ⟨#[102]⟩, .string ⟨#[107]⟩], k, val3 mainB ⟨#[102]⟩ ⟨#[107]⟩ k, codeL lc, wr⟩ pv) (by kernel_rfl) (by kernel_rfl) HW0.out ?_ ?_
          · refine ⟨⟨rfl, ?_⟩, ⟨rfl, ?_⟩, ⟨rfl, ?_⟩, ⟨rfl, ?_⟩, ⟨rfl, ?_⟩, ⟨rfl, ?_⟩, ⟨rfl, ?_⟩, ⟨rfl, ?_⟩, ⟨rfl, ?_⟩, ⟨rfl, ?_⟩, ⟨rfl, ?_⟩, ⟨rfl, ?_⟩, ⟨rfl, ?_⟩, trivial⟩
            all_goals
              intro σ vs w' hvs hcl hC hk hdep
              simp only [putO, Act.put, List.setIfInBounds_toArray, List.set_cons_succ, List.set_cons_zero, Nat.reduceAdd]
              have HC := Lib.hid hC
              have HD := Lib.hid hdep
              have HL := Lib.hid hcl
              have HS := Lib.hid hk
              clear hC hdep hcl hk hvs
            · go_simp
              exact HC.out.known HV.out.1 HNo.out
            · rw [HC.out.val (HD.out ⟨0, .data⟩ (by simp) rfl) HV.out.1]
              have n10 := not_done HL.out HS.out (j := 10) rfl rfl
              have c1 := (AppRun.pair HC.out n10).bg.cell 1
              go_simp
              exact HC.out.known HV.out.2.1 HNo.out
            · have n4 := not_done HL.out HS.out (j := 4) rfl rfl
              have n5 := not_done HL.out n4 (j := 5) rfl rfl
              have n8 := not_done HL.out n5 (j := 8) rfl rfl
              have n9 := not_done HL.out n8 (j := 9) rfl rfl
              have n10 := not_done HL.out n9 (j := 10) rfl rfl
              go_simp
              exact HC.out.strs HNo.out n10 n4
            · go_simp
              exact HC.out.known HV.out.2.2.1 HNo.out
            · have n5 := not_done HL.out HS.out (j := 5) rfl rfl
              have n8 := not_done HL.out n5 (j := 8) rfl rfl
              have n9 := not_done HL.out n8 (j := 9) rfl rfl
              have n10 := not_done HL.out n9 (j := 10) rfl rfl
              obtain ⟨H, e, h⟩ := HC.out.index HNo.out n10 (HD.out ⟨2, .data⟩ (by simp) rfl)
              have HH := Lib.hid h
              rw [HC.out.val (HD.out ⟨3, .data⟩ (by simp) rfl) HV.out.2.2.1, e]
              clear h e
              obtain ⟨i0, i1⟩ := HI.out
              go_simp
              exact HH.out
            · have n8 := not_done HL.out HS.out (j := 8) rfl rfl
              have n9 := not_done HL.out n8 (j := 9) rfl rfl
              have n10 := not_done HL.out n9 (j := 10) rfl rfl
              obtain ⟨H, e, hk⟩ := HC.out.isName n10 (HD.out ⟨4, .data⟩ (by simp) rfl)
              rw [e]
              have c := (hk.cell k).trans HS1.out
              clear hk e
              go_simp
              exact HC.out.known HV.out.2.2.2.1 HNo.out
            · go_simp
              exact HC.out.known HV.out.2.2.2.2.1 HNo.out
            · have n8 := not_done HL.out HS.out (j := 8) rfl rfl
              have n9 := not_done HL.out n8 (j := 9) rfl rfl
              have n10 := not_done HL.out n9 (j := 10) rfl rfl
              rw [HC.out.val (HD.out ⟨6, .data⟩ (by simp) rfl) HV.out.2.2.2.2.1]
              go_simp
              refine (HBF.out HFk.out (HC.out.2.1 _ _ _ HLq.out)).mono ?_
              rintro e w3 ⟨A, c, rfl, hb, hbw⟩
              exact ⟨_, rfl, HC.out.code HNo.out n10 n8 n9 hbw hb⟩
            · have n9 := not_done HL.out HS.out (j := 9) rfl rfl
              have n10 := not_done HL.out n9 (j := 10) rfl rfl
              obtain ⟨⟨A, c, e⟩, h⟩ := HC.out.build HNo.out n10 (HD.out ⟨7, .data⟩ (by simp) rfl)
              rw [HC.out.val (HD.out ⟨5, .data⟩ (by simp) rfl) HV.out.2.2.2.1]
              rw [show vs (⟨7, .data⟩ : Edge).on = vs 7 from rfl] at e h
              rw [e] at h ⊢
              have HH := Lib.hid h
              clear h e
              go_simp
              exact HH.out
            · have n10 := not_done HL.out HS.out (j := 10) rfl rfl
              obtain ⟨A, c, e, h⟩ := HC.out.row HNo.out n10 (HD.out ⟨8, .data⟩ (by simp) rfl)
              rw [show vs (⟨8, .data⟩ : Edge).on = vs 8 from rfl] at e
              rw [e]
              have HH := Lib.hid h
              clear h e
              go_simp
              exact HH.out
            · have n12 := not_done HL.out HS.out (j := 12) rfl rfl
              obtain ⟨H, A, c, e, hk, hc⟩ := HC.out.isRow HS.out (HD.out ⟨9, .data⟩ (by simp) rfl)
              rw [show vs (⟨9, .data⟩ : Edge).on = vs 9 from rfl] at e
              rw [HC.out.val (HD.out ⟨1, .data⟩ (by simp) rfl) HV.out.2.1, e]
              have hm := AppRun.pair HC.out HS.out
              have hn : ∀ j u, ([.string _, .slice A _ c] : List Value)[j]? = some u → w'.cell? ((⟨H, 0, none⟩ : Addr).add j) = some u := fun j u hj => by
                have e2 : (⟨H, 0, none⟩ : Addr).add j = ⟨H, j, none⟩ := by unfold Addr.add; split <;> simp_all
                rw [e2, hk.cell]
                simpa using hj
              obtain ⟨B, cap, w3, hr, hap⟩ := run_app_src (P := Tryd.prog) (w := w') 34 34 56 (.agg #[.string ⟨#[]⟩, .slice none 0 0]) 2 40 Tryd.underlying34 infoRout rfl (by decide) (by decide) _ _ _ _ hm.rg (some ⟨H, 0, none⟩) 1 1 _ (by rfl) (fun _ => ⟨_, rfl, hn⟩) (fun u hu => by simp at hu; rcases hu with rfl | rfl <;> rfl) (by rw [show (R1.take k).length = k from HLk.out.1]; omega) hm.fro.size
              exact upon_app (.tmp 73) (.tmp 81) 34 34 rfl (by rfl) (by rfl) hr (HC.out.app HNo.out HS.out n12 hc hap)
            · go_simp
              exact HC.out.known HV.out.2.2.2.2.2 HNo.out
            · obtain ⟨A, N, c, e, zs, hl⟩ := HC.out.isApp HS.out (HD.out ⟨10, .data⟩ (by simp) rfl)
              have h := HC.out.store HNo.out HS.out (HD.out ⟨10, .data⟩ (by simp) rfl)
              rw [show vs (⟨10, .data⟩ : Edge).on = vs 10 from rfl] at e h
              rw [e] at h
              rw [HC.out.val (HD.out ⟨11, .data⟩ (by simp) rfl) HV.out.2.2.2.2.2, e]
              have f1 := hl.bg.frozen 1
              have d1 := hl.bg.cell 1
              have HH := Lib.hid h
              clear h e hl
              go_simp
              exact HH.out
          intro σ vs w6 hC hall
          obtain ⟨A6, c6, ⟨zs6, hp⟩, ho, hz⟩ := hC.done (hall 10 (by decide)) (hall 12 (by decide))
          simp only [putO, Act.put, List.setIfInBounds_toArray, List.set_cons_succ, List.set_cons_zero, Nat.reduceAdd]
          have HP6 := Lib.hid hp
          have HOw := Lib.hid ho
          generalize vs 0 = p0 at *
          generalize vs 1 = p1 at *
          generalize vs 2 = p2 at *
          generalize vs 3 = p3 at *
          generalize vs 4 = p4 at *
          generalize vs 5 = p5 at *
          generalize vs 6 = p6 at *
          generalize vs 7 = p7 at *
          generalize vs 8 = p8 at *
          generalize vs 9 = p9 at *
          generalize vs 10 = p10 at *
          generalize vs 11 = p11 at *
          clear hC hall hp ho hz HV HNo HW0
          rw [← HTk.out, HLk.out.1] at HP6
          have HO6 := Lib.hid (HOw.out _ _ _ HOe.out)
          clear HOw HPq HOe HLq
          go_upto_region 16 with fail
          have HW0 : Hid (AppRun ⟨w2, h, g, .slice Ah nh ch, .slice Ag ng cg, .slice B k d, .slice A6 (k + 1) c6, R2.take k, R1.take (k + 1), ys1, zs6, #[.string ⟨#[109, 97, 105, 110]⟩, .string ⟨#[120]⟩, .string ⟨#[121]⟩], k, val3 mainB ⟨#[120]⟩ ⟨#[121]⟩ k, codeL (ms.map swM), w6⟩ (pv6 (.pointer (some ⟨h, 1, none⟩)) (.slice B k d) (.int .i64 (k : Int)) (.string (val3 mainB ⟨#[120]⟩ ⟨#[121]⟩ k)) (.slice (some ⟨b, 0, none⟩) len cap)) (fun _ => none) { w6 with drawn := w6.drawn + 1 }) := Lib.hid (AppRun.start (Pair.below (Pair.symm HP6.out) (below_drew (Below.refl _ _))) (fun v l E ho => ho.below (below_drew (Below.refl _ _)) rfl) (Nat.le_refl _))
          have HNo : Hid (∀ j ∈ slots7, (pv6 (.pointer (some ⟨h, 1, none⟩)) (.slice B k d) (.int .i64 (k : Int)) (.string (val3 mainB ⟨#[120]⟩ ⟨#[121]⟩ k)) (.slice (some ⟨b, 0, none⟩) len cap)) j = none) := Lib.hid (pv6_no _ _ _ _ _)
          have HV : Hid ((pv6 (.pointer (some ⟨h, 1, none⟩)) (.slice B k d) (.int .i64 (k : Int)) (.string (val3 mainB ⟨#[120]⟩ ⟨#[121]⟩ k)) (.slice (some ⟨b, 0, none⟩) len cap)) 0 = some (.pointer (some ⟨h, 1, none⟩)) ∧ (pv6 (.pointer (some ⟨h, 1, none⟩)) (.slice B k d) (.int .i64 (k : Int)) (.string (val3 mainB ⟨#[120]⟩ ⟨#[121]⟩ k)) (.slice (some ⟨b, 0, none⟩) len cap)) 1 = some (.slice B k d) ∧ (pv6 (.pointer (some ⟨h, 1, none⟩)) (.slice B k d) (.int .i64 (k : Int)) (.string (val3 mainB ⟨#[120]⟩ ⟨#[121]⟩ k)) (.slice (some ⟨b, 0, none⟩) len cap)) 3 = some (.int .i64 (k : Int)) ∧ (pv6 (.pointer (some ⟨h, 1, none⟩)) (.slice B k d) (.int .i64 (k : Int)) (.string (val3 mainB ⟨#[120]⟩ ⟨#[121]⟩ k)) (.slice (some ⟨b, 0, none⟩) len cap)) 5 = some (.string (val3 mainB ⟨#[120]⟩ ⟨#[121]⟩ k)) ∧ (pv6 (.pointer (some ⟨h, 1, none⟩)) (.slice B k d) (.int .i64 (k : Int)) (.string (val3 mainB ⟨#[120]⟩ ⟨#[121]⟩ k)) (.slice (some ⟨b, 0, none⟩) len cap)) 6 = some (.slice (some ⟨b, 0, none⟩) len cap) ∧ (pv6 (.pointer (some ⟨h, 1, none⟩)) (.slice B k d) (.int .i64 (k : Int)) (.string (val3 mainB ⟨#[120]⟩ ⟨#[121]⟩ k)) (.slice (some ⟨b, 0, none⟩) len cap)) 11 = some (.pointer (some ⟨h, 1, none⟩))) := Lib.hid ⟨rfl, rfl, rfl, rfl, rfl, rfl⟩
          generalize pv6 (.pointer (some ⟨h, 1, none⟩)) (.slice B k d) (.int .i64 (k : Int)) (.string (val3 mainB ⟨#[120]⟩ ⟨#[121]⟩ k)) (.slice (some ⟨b, 0, none⟩) len cap) = pv at *
          refine wp_region_keeps (AppRun ⟨w2, h, g, .slice Ah nh ch, .slice Ag ng cg, .slice B k d, .slice A6 (k + 1) c6, R2.take k, R1.take (k + 1), ys1, zs6, #[.string ⟨#[109, 97, 105, 110]⟩, .string ⟨#[120]⟩, .string ⟨#[121]⟩], k, val3 mainB ⟨#[120]⟩ ⟨#[121]⟩ k, codeL (ms.map swM), w6⟩ pv) (by kernel_rfl) (by kernel_rfl) HW0.out ?_ ?_
          · refine ⟨⟨rfl, ?_⟩, ⟨rfl, ?_⟩, ⟨rfl, ?_⟩, ⟨rfl, ?_⟩, ⟨rfl, ?_⟩, ⟨rfl, ?_⟩, ⟨rfl, ?_⟩, ⟨rfl, ?_⟩, ⟨rfl, ?_⟩, ⟨rfl, ?_⟩, ⟨rfl, ?_⟩, ⟨rfl, ?_⟩, ⟨rfl, ?_⟩, trivial⟩
            all_goals
              intro σ vs w' hvs hcl hC hk hdep
              simp only [putO, Act.put, List.setIfInBounds_toArray, List.set_cons_succ, List.set_cons_zero, Nat.reduceAdd]
              have HC := Lib.hid hC
              have HD := Lib.hid hdep
              have HL := Lib.hid hcl
              have HS := Lib.hid hk
              clear hC hdep hcl hk hvs
            · go_simp
              exact HC.out.known HV.out.1 HNo.out
            · rw [HC.out.val (HD.out ⟨0, .data⟩ (by simp) rfl) HV.out.1]
              have n10 := not_done HL.out HS.out (j := 10) rfl rfl
              have c1 := (AppRun.pair HC.out n10).bg.cell 1
              go_simp
              exact HC.out.known HV.out.2.1 HNo.out
            · have n4 := not_done HL.out HS.out (j := 4) rfl rfl
              have n5 := not_done HL.out n4 (j := 5) rfl rfl
              have n8 := not_done HL.out n5 (j := 8) rfl rfl
              have n9 := not_done HL.out n8 (j := 9) rfl rfl
              have n10 := not_done HL.out n9 (j := 10) rfl rfl
              go_simp
              exact HC.out.strs HNo.out n10 n4
            · go_simp
              exact HC.out.known HV.out.2.2.1 HNo.out
            · have n5 := not_done HL.out HS.out (j := 5) rfl rfl
              have n8 := not_done HL.out n5 (j := 8) rfl rfl
              have n9 := not_done HL.out n8 (j := 9) rfl rfl
              have n10 := not_done HL.out n9 (j := 10) rfl rfl
              obtain ⟨H, e, h⟩ := HC.out.index HNo.out n10 (HD.out ⟨2, .data⟩ (by simp) rfl)
              have HH := Lib.hid h
              rw [HC.out.val (HD.out ⟨3, .data⟩ (by simp) rfl) HV.out.2.2.1, e]
              clear h e
              obtain ⟨i0, i1⟩ := HI.out
              go_simp
              exact HH.out
            · have n8 := not_done HL.out HS.out (j := 8) rfl rfl
              have n9 := not_done HL.out n8 (j := 9) rfl rfl
              have n10 := not_done HL.out n9 (j := 10) rfl rfl
              obtain ⟨H, e, hk⟩ := HC.out.isName n10 (HD.out ⟨4, .data⟩ (by simp) rfl)
              rw [e]
              have c := (hk.cell k).trans HS2.out
              clear hk e
              go_simp
              exact HC.out.known HV.out.2.2.2.1 HNo.out
            · go_simp
              exact HC.out.known HV.out.2.2.2.2.1 HNo.out
            · have n8 := not_done HL.out HS.out (j := 8) rfl rfl
              have n9 := not_done HL.out n8 (j := 9) rfl rfl
              have n10 := not_done HL.out n9 (j := 10) rfl rfl
              rw [HC.out.val (HD.out ⟨6, .data⟩ (by simp) rfl) HV.out.2.2.2.2.1]
              go_simp
              refine (HBF.out (fine3_sw HFq.out) (HC.out.2.1 _ _ _ HO6.out)).mono ?_
              rintro e w3 ⟨A, c, rfl, hb, hbw⟩
              exact ⟨_, rfl, HC.out.code HNo.out n10 n8 n9 hbw hb⟩
            · have n9 := not_done HL.out HS.out (j := 9) rfl rfl
              have n10 := not_done HL.out n9 (j := 10) rfl rfl
              obtain ⟨⟨A, c, e⟩, h⟩ := HC.out.build HNo.out n10 (HD.out ⟨7, .data⟩ (by simp) rfl)
              rw [HC.out.val (HD.out ⟨5, .data⟩ (by simp) rfl) HV.out.2.2.2.1]
              rw [show vs (⟨7, .data⟩ : Edge).on = vs 7 from rfl] at e h
              rw [e] at h ⊢
              have HH := Lib.hid h
              clear h e
              go_simp
              exact HH.out
            · have n10 := not_done HL.out HS.out (j := 10) rfl rfl
              obtain ⟨A, c, e, h⟩ := HC.out.row HNo.out n10 (HD.out ⟨8, .data⟩ (by simp) rfl)
              rw [show vs (⟨8, .data⟩ : Edge).on = vs 8 from rfl] at e
              rw [e]
              have HH := Lib.hid h
              clear h e
              go_simp
              exact HH.out
            · have n12 := not_done HL.out HS.out (j := 12) rfl rfl
              obtain ⟨H, A, c, e, hk, hc⟩ := HC.out.isRow HS.out (HD.out ⟨9, .data⟩ (by simp) rfl)
              rw [show vs (⟨9, .data⟩ : Edge).on = vs 9 from rfl] at e
              rw [HC.out.val (HD.out ⟨1, .data⟩ (by simp) rfl) HV.out.2.1, e]
              have hm := AppRun.pair HC.out HS.out
              have hn : ∀ j u, ([.string _, .slice A _ c] : List Value)[j]? = some u → w'.cell? ((⟨H, 0, none⟩ : Addr).add j) = some u := fun j u hj => by
                have e2 : (⟨H, 0, none⟩ : Addr).add j = ⟨H, j, none⟩ := by unfold Addr.add; split <;> simp_all
                rw [e2, hk.cell]
                simpa using hj
              obtain ⟨B, cap, w3, hr, hap⟩ := run_app_src (P := Tryd.prog) (w := w') 34 34 56 (.agg #[.string ⟨#[]⟩, .slice none 0 0]) 2 40 Tryd.underlying34 infoRout rfl (by decide) (by decide) _ _ _ _ hm.rg (some ⟨H, 0, none⟩) 1 1 _ (by rfl) (fun _ => ⟨_, rfl, hn⟩) (fun u hu => by simp at hu; rcases hu with rfl | rfl <;> rfl) (by rw [show (R2.take k).length = k from HLk.out.2]; omega) hm.fro.size
              exact upon_app (.tmp 85) (.tmp 93) 34 34 rfl (by rfl) (by rfl) hr (HC.out.app HNo.out HS.out n12 hc hap)
            · go_simp
              exact HC.out.known HV.out.2.2.2.2.2 HNo.out
            · obtain ⟨A, N, c, e, zs, hl⟩ := HC.out.isApp HS.out (HD.out ⟨10, .data⟩ (by simp) rfl)
              have h := HC.out.store HNo.out HS.out (HD.out ⟨10, .data⟩ (by simp) rfl)
              rw [show vs (⟨10, .data⟩ : Edge).on = vs 10 from rfl] at e h
              rw [e] at h
              rw [HC.out.val (HD.out ⟨11, .data⟩ (by simp) rfl) HV.out.2.2.2.2.2, e]
              have f1 := hl.bg.frozen 1
              have d1 := hl.bg.cell 1
              have HH := Lib.hid h
              clear h e hl
              go_simp
              exact HH.out
          intro σ vs w7 hC hall
          obtain ⟨A7, c7, ⟨zs7, hp⟩, ho, hz⟩ := hC.done (hall 10 (by decide)) (hall 12 (by decide))
          simp only [putO, Act.put, List.setIfInBounds_toArray, List.set_cons_succ, List.set_cons_zero, Nat.reduceAdd]
          have HPw := Lib.hid hp
          have HOx := Lib.hid ho
          generalize vs 0 = r0 at *
          generalize vs 1 = r1 at *
          generalize vs 2 = r2 at *
          generalize vs 3 = r3 at *
          generalize vs 4 = r4 at *
          generalize vs 5 = r5 at *
          generalize vs 6 = r6 at *
          generalize vs 7 = r7 at *
          generalize vs 8 = r8 at *
          generalize vs 9 = r9 at *
          generalize vs 10 = r10 at *
          generalize vs 11 = r11 at *
          clear hC hall hp ho hz HV HNo HW0
          have HP7 := Lib.hid (Pair.symm HPw.out)
          rw [← HTq.out, HLk.out.2] at HP7
          go_wp2_with fail
          go_round
          case rel => exact ⟨k + 1, _, _, _, _, _, _, by omega, by go_num, HP7⟩
          case measure => simp [intOf]; omega
    · have hk3 : ¬ ((k : Int) < 3) := by omega
      have e3 : k = 3 := by omega
      have e1 : R1.take k = R1 := by rw [e3]; exact HE1.out
      have e2 : R2.take k = R2 := by rw [e3]; exact HE2.out
      rw [e1, e2] at HP
      have hr1 := routs_of HP.out.rg HP.out.cg
      have HRun := Lib.hid (HX.out _ _ wr (HGg.out wr HP.out.fro) hr1 (HT.out.own (HLow.out wr HP.out.fro)))
      have HKg : Hid (Blk wr g 36 #[.slice Ag ng cg, .slice A k c]) := Lib.hid HP.out.bg
      have HKgz : Hid (g < wr.heap.size) := Lib.hid HP.out.bg.lt
      have HBw := Lib.hid (HLow.out wr HP.out.fro)
      clear hr1 e1 e2 e3 HCode HFine HCall HBF HRow HT1 HT2 HL1 HL2 HE1 HE2 HX HGg
      go_upto_region 17 with fail
      have HW0 : Hid (TwoRun ix3 (pv3 (.agg #[.slice Ag ng cg, .slice A k c]) vi (.int .i64 (n : Int))) wr.heap.size wr xs X (0, 0) (fun _ => none) { wr with drawn := wr.drawn + 1 }) := Lib.hid (TwoRun.start (below_drew (Below.refl _ _)) (Nat.le_refl _))
      have HNo : Hid (∀ j ∈ ix3.all, (pv3 (.agg #[.slice Ag ng cg, .slice A k c]) vi (.int .i64 (n : Int))) j = none) := Lib.hid (ix3_no _ _ _)
      have HP : Hid ((pv3 (.agg #[.slice Ag ng cg, .slice A k c]) vi (.int .i64 (n : Int))) 0 = some (.agg #[.slice Ag ng cg, .slice A k c]) ∧ (pv3 (.agg #[.slice Ag ng cg, .slice A k c]) vi (.int .i64 (n : Int))) 1 = some (vi) ∧ (pv3 (.agg #[.slice Ag ng cg, .slice A k c]) vi (.int .i64 (n : Int))) 3 = some (.int .i64 (n : Int))) := Lib.hid ⟨rfl, rfl, rfl⟩
      generalize pv3 (.agg #[.slice Ag ng cg, .slice A k c]) vi (.int .i64 (n : Int)) = pv at *
      refine wp_region_keeps (TwoRun ix3 pv wr.heap.size wr xs X (0, 0)) (by kernel_rfl) (by kernel_rfl) HW0.out ?_ ?_
      · refine ⟨⟨rfl, ?_⟩, ⟨rfl, ?_⟩, ⟨rfl, ?_⟩, ⟨rfl, ?_⟩, ⟨rfl, ?_⟩, ⟨rfl, ?_⟩, ⟨rfl, ?_⟩, ⟨rfl, ?_⟩, ⟨rfl, ?_⟩, ⟨rfl, ?_⟩, ⟨rfl, ?_⟩, ⟨rfl, ?_⟩, trivial⟩
        all_goals
          intro σ vs w' hvs hcl hC hk hdep
          simp only [putO, Act.put, List.setIfInBounds_toArray, List.set_cons_succ, List.set_cons_zero, Nat.reduceAdd]
          have HC := Lib.hid hC
          have HD := Lib.hid hdep
          have HL := Lib.hid hcl
          have HS := Lib.hid hk
          clear hC hdep hcl hk hvs
        · have hk := HKg.out.below HC.out.low.1 HKgz.out
          have c0 := hk.cell 0
          have c1 := hk.cell 1
          clear hk
          go_simp
          exact HC.out.known HP.out.1 HNo.out
        · go_simp
          exact HC.out.known HP.out.2.1 HNo.out
        · rw [HC.out.val (HD.out ⟨1, .data⟩ (by simp) rfl) HP.out.2.1]
          go_simp
          have hb0 := HBw.out.trans (HC.out.low.1.mono HBw.out.size)
          refine (Input_any vi li w' ((HIn.out.below hb0 (Nat.le_refl _)).more hb0.size)).mono ?_
          rintro e w2 ⟨u, rfl, hu, hb⟩
          rw [HXS.out] at hu
          exact ⟨u, rfl, HC.out.input ix3_apart HNo.out hb hu⟩
        · go_simp
          exact HC.out.known HP.out.2.2 HNo.out
        · rw [HC.out.val (HD.out ⟨0, .data⟩ (by simp) rfl) HP.out.1, HC.out.val (HD.out ⟨3, .data⟩ (by simp) rfl) HP.out.2.2]
          have hi := HC.out.isInput (HD.out ⟨2, .data⟩ (by simp) rfl)
          have hcall := HRun.out _ _ w'   ((Below.refl wr.heap.size wr).trans (HC.out.low.1.mono (Below.refl wr.heap.size wr).size)) hi
          have HCall := Lib.hid hcall
          clear hcall hi
          go_simp
          refine HCall.out.mono ?_
          rintro e w2 ⟨ov, rfl, h1, h2⟩
          have n5 := not_done HL.out HS.out (j := 5) rfl rfl
          have n6 := not_done HL.out n5 (j := 6) rfl rfl
          exact ⟨_, rfl, HC.out.run ix3_apart HNo.out h2 h1 n5 n6 (not_done HL.out n6 (j := 10) rfl rfl)⟩
        · go_simp
          exact HC.out.copy ix3_apart HNo.out (HD.out ⟨4, .data⟩ (by simp) rfl)
        · obtain ⟨ov, e⟩ := HC.out.isCopy (HD.out ⟨5, .data⟩ (by simp) rfl)
          rw [e]
          have h := HD.out ⟨5, .data⟩ (by simp) rfl
          rw [show vs (⟨5, .data⟩ : Edge).on = vs 5 from rfl, e] at h
          have HH := Lib.hid h
          clear h e
          unfold runV
          go_simp
          exact HC.out.out1 ix3_apart HNo.out HH.out
        · obtain ⟨ov, e⟩ := HC.out.isCopy (HD.out ⟨5, .data⟩ (by simp) rfl)
          rw [e]
          clear e
          unfold runV
          go_simp
          exact HC.out.out2 ix3_apart HNo.out
        · go_simp
          exact HC.out.var1 ix3_apart HNo.out (not_done HL.out HS.out (j := 10) rfl rfl)
        · go_simp
          exact HC.out.var2 ix3_apart HNo.out (not_done HL.out HS.out (j := 11) rfl rfl)
        · obtain ⟨ov, g, ⟨A, l, c, rfl⟩, e1, e2, hk, h⟩ := HC.out.store1 ix3_apart HNo.out (HD.out ⟨8, .data⟩ (by simp) rfl) (HD.out ⟨6, .data⟩ (by simp) rfl) (HD.out ⟨4, .chain⟩ (by simp) rfl) HS.out
          rw [e1, e2]
          have H := Lib.hid h
          have f0 := hk.frozen 0
          have f1 := hk.frozen 1
          have f2 := hk.frozen 2
          have f3 := hk.frozen 3
          have d0 : w'.cell? ⟨g, 0, none⟩ = some (.int .i64 0) := hk.cell 0
          have d1 : w'.cell? ⟨g, 1, none⟩ = some (.int .i64 0) := hk.cell 1
          have d2 : w'.cell? ⟨g, 2, none⟩ = some (.slice none 0 0) := hk.cell 2
          have d3 : w'.cell? ⟨g, 3, none⟩ = some (.int .i64 0) := hk.cell 3
          clear h hk e1 e2
          unfold outV ptrV
          go_simp
          exact H.out
        · obtain ⟨g, e1, e2, hk, h⟩ := HC.out.store2 ix3_apart HNo.out (HD.out ⟨9, .data⟩ (by simp) rfl) (HD.out ⟨7, .data⟩ (by simp) rfl) HS.out
          rw [e1, e2]
          have H := Lib.hid h
          have f0 := hk.frozen 0
          have f1 := hk.frozen 1
          have d0 : w'.cell? ⟨g, 0, none⟩ = some (.int .i64 0) := hk.cell 0
          have d1 : w'.cell? ⟨g, 1, none⟩ = some (.int .i64 0) := hk.cell 1
          clear h hk e1 e2
          unfold faultV ptrV
          go_simp
          exact H.out
      intro σ vs w4 hC hall
      obtain ⟨ox, gx, gf, e1, e2, hkx, hkf, hgx, hgf, hox, hb4⟩ := hC.done (hall 8 (by decide)) (hall 9 (by decide)) (hall 10 (by decide)) (hall 11 (by decide)) (hall 4 (by decide))
      simp only [putO, Act.put, List.setIfInBounds_toArray, List.set_cons_succ, List.set_cons_zero, Nat.reduceAdd]
      rw [show vs 8 = ptrV gx from e1, show vs 9 = ptrV gf from e2]
      have HKx := Lib.hid hkx
      have HFx := Lib.hid hkf
      have HOx := Lib.hid hox
      have HBx := Lib.hid hb4
      have HGx := Lib.hid (And.intro hgx hgf)
      generalize vs 0 = sx0 at *
      generalize vs 1 = sx1 at *
      generalize vs 2 = sx2 at *
      generalize vs 3 = sx3 at *
      generalize vs 4 = sx4 at *
      generalize vs 5 = sx5 at *
      generalize vs 6 = sx6 at *
      generalize vs 7 = sx7 at *
      clear hC hall e1 e2 hkx hkf hgx hgf hox hb4 HP HNo HW0
      unfold ptrV
      have HP4 := Lib.hid (HP.out.below HBx.out)
      have HB4 := Lib.hid (HBw.out.trans (HBx.out.mono HBw.out.size))
      have HRun := Lib.hid (HY.out _ _ w4 (HGh.out w4 HP4.out.fro) (routs_of HP4.out.rh HP4.out.ch) (HT.out.own HB4.out))
      have HKh : Hid (Blk w4 h 36 #[.slice Ah nh ch, .slice B k d]) := Lib.hid HP4.out.bh
      have HKhz : Hid (h < w4.heap.size) := Lib.hid HP4.out.bh.lt
      clear HP HP4 HKg HKgz HGh HY
      go_upto_region 18 with fail
      have HW0 : Hid (TwoRun ix3 (pv3 (.agg #[.slice Ah nh ch, .slice B k d]) vi (.int .i64 (n : Int))) w4.heap.size w4 xs Y (0, 0) (fun _ => none) { w4 with drawn := w4.drawn + 1 }) := Lib.hid (TwoRun.start (below_drew (Below.refl _ _)) (Nat.le_refl _))
      have HNo : Hid (∀ j ∈ ix3.all, (pv3 (.agg #[.slice Ah nh ch, .slice B k d]) vi (.int .i64 (n : Int))) j = none) := Lib.hid (ix3_no _ _ _)
      have HP : Hid ((pv3 (.agg #[.slice Ah nh ch, .slice B k d]) vi (.int .i64 (n : Int))) 0 = some (.agg #[.slice Ah nh ch, .slice B k d]) ∧ (pv3 (.agg #[.slice Ah nh ch, .slice B k d]) vi (.int .i64 (n : Int))) 1 = some (vi) ∧ (pv3 (.agg #[.slice Ah nh ch, .slice B k d]) vi (.int .i64 (n : Int))) 3 = some (.int .i64 (n : Int))) := Lib.hid ⟨rfl, rfl, rfl⟩
      generalize pv3 (.agg #[.slice Ah nh ch, .slice B k d]) vi (.int .i64 (n : Int)) = pv at *
      refine wp_region_keeps (TwoRun ix3 pv w4.heap.size w4 xs Y (0, 0)) (by kernel_rfl) (by kernel_rfl) HW0.out ?_ ?_
      · refine ⟨⟨rfl, ?_⟩, ⟨rfl, ?_⟩, ⟨rfl, ?_⟩, ⟨rfl, ?_⟩, ⟨rfl, ?_⟩, ⟨rfl, ?_⟩, ⟨rfl, ?_⟩, ⟨rfl, ?_⟩, ⟨rfl, ?_⟩, ⟨rfl, ?_⟩, ⟨rfl, ?_⟩, ⟨rfl, ?_⟩, trivial⟩
        all_goals
          intro σ vs w' hvs hcl hC hk hdep
          simp only [putO, Act.put, List.setIfInBounds_toArray, List.set_cons_succ, List.set_cons_zero, Nat.reduceAdd]
          have HC := Lib.hid hC
          have HD := Lib.hid hdep
          have HL := Lib.hid hcl
          have HS := Lib.hid hk
          clear hC hdep hcl hk hvs
        · have hk := HKh.out.below HC.out.low.1 HKhz.out
          have c0 := hk.cell 0
          have c1 := hk.cell 1
          clear hk
          go_simp
          exact HC.out.known HP.out.1 HNo.out
        · go_simp
          exact HC.out.known HP.out.2.1 HNo.out
        · rw [HC.out.val (HD.out ⟨1, .data⟩ (by simp) rfl) HP.out.2.1]
          go_simp
          have hb0 := HB4.out.trans (HC.out.low.1.mono HB4.out.size)
          refine (Input_any vi li w' ((HIn.out.below hb0 (Nat.le_refl _)).more hb0.size)).mono ?_
          rintro e w2 ⟨u, rfl, hu, hb⟩
          rw [HXS.out] at hu
          exact ⟨u, rfl, HC.out.input ix3_apart HNo.out hb hu⟩
        · go_simp
          exact HC.out.known HP.out.2.2 HNo.out
        · rw [HC.out.val (HD.out ⟨0, .data⟩ (by simp) rfl) HP.out.1, HC.out.val (HD.out ⟨3, .data⟩ (by simp) rfl) HP.out.2.2]
          have hi := HC.out.isInput (HD.out ⟨2, .data⟩ (by simp) rfl)
          have hcall := HRun.out _ _ w'   ((Below.refl w4.heap.size w4).trans (HC.out.low.1.mono (Below.refl w4.heap.size w4).size)) hi
          have HCall := Lib.hid hcall
          clear hcall hi
          go_simp
          refine HCall.out.mono ?_
          rintro e w2 ⟨ov, rfl, h1, h2⟩
          have n5 := not_done HL.out HS.out (j := 5) rfl rfl
          have n6 := not_done HL.out n5 (j := 6) rfl rfl
          exact ⟨_, rfl, HC.out.run ix3_apart HNo.out h2 h1 n5 n6 (not_done HL.out n6 (j := 10) rfl rfl)⟩
        · go_simp
          exact HC.out.copy ix3_apart HNo.out (HD.out ⟨4, .data⟩ (by simp) rfl)
        · obtain ⟨ov, e⟩ := HC.out.isCopy (HD.out ⟨5, .data⟩ (by simp) rfl)
          rw [e]
          have h := HD.out ⟨5, .data⟩ (by simp) rfl
          rw [show vs (⟨5, .data⟩ : Edge).on = vs 5 from rfl, e] at h
          have HH := Lib.hid h
          clear h e
          unfold runV
          go_simp
          exact HC.out.out1 ix3_apart HNo.out HH.out
        · obtain ⟨ov, e⟩ := HC.out.isCopy (HD.out ⟨5, .data⟩ (by simp) rfl)
          rw [e]
          clear e
          unfold runV
          go_simp
          exact HC.out.out2 ix3_apart HNo.out
        · go_simp
          exact HC.out.var1 ix3_apart HNo.out (not_done HL.out HS.out (j := 10) rfl rfl)
        · go_simp
          exact HC.out.var2 ix3_apart HNo.out (not_done HL.out HS.out (j := 11) rfl rfl)
        · obtain ⟨ov, g, ⟨A, l, c, rfl⟩, e1, e2, hk, h⟩ := HC.out.store1 ix3_apart HNo.out (HD.out ⟨8, .data⟩ (by simp) rfl) (HD.out ⟨6, .data⟩ (by simp) rfl) (HD.out ⟨4, .chain⟩ (by simp) rfl) HS.out
          rw [e1, e2]
          have H := Lib.hid h
          have f0 := hk.frozen 0
          have f1 := hk.frozen 1
          have f2 := hk.frozen 2
          have f3 := hk.frozen 3
          have d0 : w'.cell? ⟨g, 0, none⟩ = some (.int .i64 0) := hk.cell 0
          have d1 : w'.cell? ⟨g, 1, none⟩ = some (.int .i64 0) := hk.cell 1
          have d2 : w'.cell? ⟨g, 2, none⟩ = some (.slice none 0 0) := hk.cell 2
          have d3 : w'.cell? ⟨g, 3, none⟩ = some (.int .i64 0) := hk.cell 3
          clear h hk e1 e2
          unfold outV ptrV
          go_simp
          exact H.out
        · obtain ⟨g, e1, e2, hk, h⟩ := HC.out.store2 ix3_apart HNo.out (HD.out ⟨9, .data⟩ (by simp) rfl) (HD.out ⟨7, .data⟩ (by simp) rfl) HS.out
          rw [e1, e2]
          have H := Lib.hid h
          have f0 := hk.frozen 0
          have f1 := hk.frozen 1
          have d0 : w'.cell? ⟨g, 0, none⟩ = some (.int .i64 0) := hk.cell 0
          have d1 : w'.cell? ⟨g, 1, none⟩ = some (.int .i64 0) := hk.cell 1
          clear h hk e1 e2
          unfold faultV ptrV
          go_simp
          exact H.out
      intro σ vs w5 hC hall
      obtain ⟨oy, gy, gh, e1, e2, hkx, hkf, hgx, hgf, hox, hb4⟩ := hC.done (hall 8 (by decide)) (hall 9 (by decide)) (hall 10 (by decide)) (hall 11 (by decide)) (hall 4 (by decide))
      simp only [putO, Act.put, List.setIfInBounds_toArray, List.set_cons_succ, List.set_cons_zero, Nat.reduceAdd]
      rw [show vs 8 = ptrV gy from e1, show vs 9 = ptrV gh from e2]
      have HKy := Lib.hid hkx
      have HFy := Lib.hid hkf
      have HOy := Lib.hid hox
      have HBy := Lib.hid hb4
      have HGy := Lib.hid (And.intro hgx hgf)
      generalize vs 0 = sy0 at *
      generalize vs 1 = sy1 at *
      generalize vs 2 = sy2 at *
      generalize vs 3 = sy3 at *
      generalize vs 4 = sy4 at *
      generalize vs 5 = sy5 at *
      generalize vs 6 = sy6 at *
      generalize vs 7 = sy7 at *
      clear hC hall e1 e2 hkx hkf hgx hgf hox hb4 HP HNo HW0
      unfold ptrV
      have HKx5 := Lib.hid (HKx.out.below HBy.out HKx.out.lt)
      have HFx5 := Lib.hid (HFx.out.below HBy.out HFx.out.lt)
      have HOx5 := Lib.hid (row_lt HOx.out HBy.out)
      have HB5 := Lib.hid (HB4.out.trans (HBy.out.mono HB4.out.size))
      have b0 : w5.cell? ⟨gf, 0, none⟩ = some (.int .i64 0) := HFx5.out.cell 0
      have b1 : w5.cell? ⟨gh, 0, none⟩ = some (.int .i64 0) := HFy.out.cell 0
      clear HKx HFx HOx HBx HGx HGy HKh HKhz HRun
      go_wp2_with fail
      refine (Sure_any w5 (HT.out.own HB5.out)).mono ?_
      rintro e w6 ⟨rfl, hb6⟩
      have HB6 := Lib.hid (HB5.out.trans (hb6.mono HB5.out.size))
      have HKx6 := Lib.hid (HKx5.out.below hb6 HKx5.out.lt)
      have HKy6 := Lib.hid (HKy.out.below hb6 HKy.out.lt)
      have HIx := Lib.hid (row_ints (row_lt HOx5.out hb6) rfl)
      have HIy := Lib.hid (row_ints (row_lt HOy.out hb6) rfl)
      have a0 : w6.cell? ⟨gx, 0, none⟩ = some (.int .i64 X.state) := HKx6.out.cell 0
      have a1 : w6.cell? ⟨gx, 1, none⟩ = some (.int .i64 X.value) := HKx6.out.cell 1
      have a2 : w6.cell? ⟨gx, 2, none⟩ = some ox := HKx6.out.cell 2
      have a3 : w6.cell? ⟨gx, 3, none⟩ = some (.int .i64 (X.steps : Int)) := HKx6.out.cell 3
      have c0 : w6.cell? ⟨gy, 0, none⟩ = some (.int .i64 Y.state) := HKy6.out.cell 0
      have c1 : w6.cell? ⟨gy, 1, none⟩ = some (.int .i64 Y.value) := HKy6.out.cell 1
      have c2 : w6.cell? ⟨gy, 2, none⟩ = some oy := HKy6.out.cell 2
      have c3 : w6.cell? ⟨gy, 3, none⟩ = some (.int .i64 (Y.steps : Int)) := HKy6.out.cell 3
      clear hb6 b0 b1 HKx5 HFx5 HOx5 HKy HFy HOy HBy
      go_wp2_with fail
      refine (Outcomes_any X Y ox oy w6 HIx.out HIy.out).mono ?_
      rintro e w7 ⟨rfl, hb7⟩
      rw [HLaw.out]
      have HB7 := Lib.hid (HB6.out.trans (hb7.mono HB6.out.size))
      clear hb7
      go_wp2_with fail
      go_ret
      exact ⟨rfl, HB7.out⟩
end Go.Proofs.YtkiaffaieniebaaDoor
