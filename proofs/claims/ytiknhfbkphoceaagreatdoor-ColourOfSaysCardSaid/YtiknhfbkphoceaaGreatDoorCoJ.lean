/-
  Several texts in one (CoG CoJ): what each proves stands at its theorems.
  Conditions: as the theorems say.
-/
import Derived.Test.YtiknhfbkphoceaaGreatDoorCoE
import Derived.Test.YtiknhfbkphoceaaGreatDoorCoI
import Derived.Test.YtiknhfbkphoceaaGreatDoorIng
namespace Go.Proofs.YtiknhfbkphoceaaGreatDoor
open Go.RowKit

set_option maxRecDepth 100000 in
set_option maxHeartbeats 4000000 in
theorem stable_any (W0 : World) (base g c n : Nat) (xs0 : List Int) (Fc : FuncId) (cap : Array Value) (kf : Int → Int → Int) (hn : n ≤ 100)
    (hc : ∀ (a : Array Value) (W : World), (callFunc Fc a).run Tryz.prog W = .ok (.enter Fc a) W) (hk : AsksOnly W0 g Fc cap xs0 kf) (w : Int → Int) (hkf : ∀ x y, kf x y < 0 ↔ w y < w x) (xs : List Int) (W : World) (h : SortNow W0 W base g c n xs) (hx0 : ∀ x ∈ xs, x ∈ xs0) (hasc : Seg (· < ·) xs 0 n) :
    Calls Tryz.prog 37 #[.slice (some ⟨g, 0, none⟩) n c, .int .i64 (n : Int), .func (.func Fc) #[] cap] W fun e W' => e = .returned (.tuple #[]) ∧ ∃ ys, (ys.Perm xs ∧ Seg (ltW w) ys 0 n) ∧ SortNow W0 W' base g c n ys := by
  have HS := Lib.hid h
  have HX := Lib.hid hx0
  have HIn := Lib.hid (fun (a b : Nat) (ys : List Int) (W : World) (hp : ys.Perm xs) (hs : SortNow W0 W base g c n ys) (hb : b ≤ n) (ha : a ≤ n) (hs2 : Seg (· < ·) ys a b) => insertion_any W0 base g c n xs0 ys a b Fc cap kf W hs (fun x hx => hx0 x (hp.mem_iff.1 hx)) (by omega) hb ha hc hk w hkf hs2)
  have HSy := Lib.hid (fun (a m b : Nat) (ys : List Int) (W : World) (hp : ys.Perm xs) (hs : SortNow W0 W base g c n ys) (h1 : a < m) (h2 : m < b) (h3 : b ≤ n) (q1 : Seg (ltW w) ys a m) (q2 : Seg (ltW w) ys m b) (q3 : Cross (· < ·) ys a m m b) => symMerge_any W0 base g c n xs0 Fc cap kf (by omega) hc hk w hkf (b - a) a m b ys W (Nat.le_refl _) hs (fun x hx => hx0 x (hp.mem_iff.1 hx)) h1 h2 h3 q1 q2 q3)
  have HI0 : Hid (InsInv w n 0 xs) := Lib.hid (InsInv.start hasc)
  clear h hx0 hk hasc
  go_enter Tryz.func37, Tryz.ntmps37
  go_upto_region 2 with fail
  go_loopg [7, 8] n (fun gk ua ub wx => ∃ (a : Nat) (ys : List Int), n ≤ a + gk ∧ a ≤ n ∧ a % 20 = 0 ∧ ua = .int .i64 (a : Int) ∧ ub = .int .i64 ((a : Int) + 20) ∧ Hid (ys.Perm xs ∧ InsInv w n a ys) ∧ Hid (SortNow W0 wx base g c n ys))
  case atStart => exact ⟨0, xs, by omega, by omega, by omega, rfl, by go_num, Lib.hid ⟨List.Perm.refl _, HI0.out⟩, HS⟩
  case round =>
    obtain ⟨a, ys, hna, han, ha20, rfl, rfl, HP, HY⟩ := hrel
    by_cases hab : (a : Int) + 20 ≤ (n : Int)
    · obtain ⟨mk, rfl⟩ : ∃ mk, gk = mk + 1 := ⟨gk - 1, by omega⟩
      obtain ⟨b, hb⟩ : ∃ b : Nat, (a : Int) + 20 = (b : Int) := ⟨a + 20, by omega⟩
      have HC := Lib.hid (HIn.out a b ys wr HP.out.1 HY.out (by omega) han (HP.out.2.asc (by omega)))
      go_wp2_with fail
      refine HC.out.mono ?_
      rintro e w1 ⟨rfl, zs, hp, hz⟩
      have HZ : Hid ((zs.Perm xs ∧ InsInv w n b zs) ∧ SortNow W0 w1 base g c n zs) := Lib.hid (by
        obtain rfl : b = a + 20 := by omega
        exact ⟨⟨hp.1.trans HP.out.1, HP.out.2.step ha20 (by omega) hp.2.1 hp.2.2⟩, hz⟩)
      clear hp hz
      go_wp2_with fail
      go_roundg mk
      case measure => omega
      case rel => exact ⟨b, zs, by omega, by omega, by omega, rfl, by go_num, Lib.hid HZ.out.1, Lib.hid HZ.out.2⟩
    · have HC := Lib.hid (HIn.out a n ys wr HP.out.1 HY.out (Nat.le_refl _) han (HP.out.2.asc (Nat.le_refl _)))
      go_upto_region 6 with fail
      go_wp2_with fail
      refine HC.out.mono ?_
      rintro e w1 ⟨rfl, zs, hp, hz⟩
      have HZ : Hid ((zs.Perm xs ∧ BlkInv w n 20 0 zs) ∧ SortNow W0 w1 base g c n zs) := Lib.hid ⟨⟨hp.1.trans HP.out.1, HP.out.2.end_ ha20 (by omega) han hp.2.1 hp.2.2⟩, hz⟩
      clear hp hz HY HC
      go_upto_region 7 with fail
      go_loopg [6, 7, 8, 9] n (fun gk us ua ub um wx => ∃ (bs : Nat) (vs : List Int), n ≤ bs + gk ∧ 20 ≤ bs ∧ bs ≤ 4000 ∧ (bs = 20 ∨ bs = 40 ∨ bs = 80 ∨ bs = 160) ∧ us = .int .i64 (bs : Int) ∧ Hid (vs.Perm xs ∧ BlkInv w n bs 0 vs) ∧ Hid (SortNow W0 wx base g c n vs))
      case atStart => exact ⟨20, zs, by omega, by omega, by omega, .inl rfl, rfl, Lib.hid HZ.out.1, Lib.hid HZ.out.2⟩
      case round =>
        obtain ⟨bs, vs, hnb, hb20, hb4, hbs0, rfl, HP2, HY2⟩ := hrel
        by_cases hbn : (bs : Int) < (n : Int)
        · have Hbs : Hid (bs = 20 ∨ bs = 40 ∨ bs = 80) := Lib.hid (by omega)
          obtain ⟨mk, rfl⟩ : ∃ mk, gk = mk + 1 := ⟨gk - 1, by omega⟩
          obtain ⟨b2, hb2⟩ : ∃ b2 : Nat, 2 * (bs : Int) = (b2 : Int) := ⟨2 * bs, by omega⟩
          have hb2' : (bs : Int) * 2 = (b2 : Int) := by omega
          go_upto_region 9 with fail
          generalize hW5 : wr = W5 at *
          clear hW5
          go_loopg [7, 8] n (fun gk ua ub wx => ∃ (a : Nat) (ys : List Int), n ≤ a + gk ∧ a ≤ n ∧ ua = .int .i64 (a : Int) ∧ ub = .int .i64 ((a : Int) + (b2 : Int)) ∧ Hid (a % (2 * bs) = 0 ∧ ys.Perm xs ∧ BlkInv w n bs a ys) ∧ Hid (SortNow W0 wx base g c n ys))
          case atStart => exact ⟨0, vs, by omega, by omega, rfl, by go_num, Lib.hid ⟨Nat.zero_mod _, HP2.out⟩, Lib.hid HY2.out⟩
          case round =>
            obtain ⟨a', ys', hna', han', rfl, rfl, HP, HY⟩ := hrel
            obtain ⟨am, ham⟩ : ∃ am : Nat, (a' : Int) + (bs : Int) = (am : Int) := ⟨a' + bs, by omega⟩
            obtain ⟨ab, hab2⟩ : ∃ ab : Nat, (a' : Int) + (b2 : Int) = (ab : Int) := ⟨a' + b2, by omega⟩
            have Ham : Hid (am = a' + bs ∧ ab = a' + 2 * bs ∧ b2 = 2 * bs) := Lib.hid (by omega)
            by_cases hle : (ab : Int) ≤ (n : Int)
            · obtain ⟨mj, rfl⟩ : ∃ mj, gk = mj + 1 := ⟨gk - 1, by omega⟩
              have hpre := HP.out.2.2.pre (b := ab) Hbs.out HP.out.1 (by omega) (by omega) (by omega)
              rw [← Ham.out.1] at hpre
              have HC := Lib.hid (HSy.out a' am ab ys' wr HP.out.2.1 HY.out (by omega) (by omega) (by omega) hpre.1 hpre.2.1 hpre.2.2)
              clear hpre
              go_wp2_with fail
              refine HC.out.mono ?_
              rintro e w1 ⟨rfl, zs', hp, hz⟩
              have HZ : Hid ((ab % (2 * bs) = 0 ∧ zs'.Perm xs ∧ BlkInv w n bs ab zs') ∧ SortNow W0 w1 base g c n zs') := Lib.hid (by
                have h2 := hp.2
                rw [Ham.out.2.1] at h2 ⊢
                exact ⟨⟨by rw [Nat.add_mod_right]; exact HP.out.1, hp.1.trans HP.out.2.1, HP.out.2.2.step Hbs.out HP.out.1 (by omega) h2.1 h2.2⟩, hz⟩)
              clear hp hz
              go_wp2_with fail
              go_roundg mj
              case measure => omega
              case rel => exact ⟨ab, zs', by omega, by omega, rfl, by go_num, Lib.hid HZ.out.1, Lib.hid HZ.out.2⟩
            · go_upto_region 13 with fail
              by_cases hmn : (am : Int) < (n : Int)
              · have hpre := HP.out.2.2.pre (b := n) Hbs.out HP.out.1 (by omega) (by omega) (Nat.le_refl _)
                rw [← Ham.out.1] at hpre
                have HC := Lib.hid (HSy.out a' am n ys' wr HP.out.2.1 HY.out (by omega) (by omega) (Nat.le_refl _) hpre.1 hpre.2.1 hpre.2.2)
                clear hpre
                go_upto_region 15 with fail
                go_wp2_with fail
                refine HC.out.mono ?_
                rintro e w1 ⟨rfl, zs', hp, hz⟩
                have HZ : Hid ((zs'.Perm xs ∧ BlkInv w n b2 0 zs') ∧ SortNow W0 w1 base g c n zs') := Lib.hid (by
                  rw [Ham.out.2.2]
                  exact ⟨⟨hp.1.trans HP.out.2.1, HP.out.2.2.end_ Hbs.out HP.out.1 (by have := Ham.out; omega) (by omega) hp.2.1 hp.2.2⟩, hz⟩)
                clear hp hz
                go_wp2_with fail
                go_roundg mk
                case measure => omega
                case rel => exact ⟨b2, zs', by omega, by omega, by omega, by have := Ham.out; have := Hbs.out; omega, by go_num, Lib.hid HZ.out.1, Lib.hid HZ.out.2⟩
              · have HE : Hid (ys'.Perm xs ∧ BlkInv w n b2 0 ys') := Lib.hid (by
                  rw [Ham.out.2.2]
                  exact ⟨HP.out.2.1, HP.out.2.2.end_ Hbs.out HP.out.1 (by have := Ham.out; omega) (by omega) (HP.out.2.2.last Hbs.out HP.out.1 (by have := Ham.out; omega)) (Moved.refl _ _ _)⟩)
                go_wp2_with fail
                go_roundg mk
                case measure => omega
                case rel => exact ⟨b2, ys', by omega, by omega, by omega, by have := Ham.out; have := Hbs.out; omega, by go_num, HE, Lib.hid HY.out⟩
        · have HE : Hid (vs.Perm xs ∧ Seg (ltW w) vs 0 n) := Lib.hid ⟨HP2.out.1, HP2.out.2.all (by omega)⟩
          go_wp2_with fail
          go_end0
          exact ⟨rfl, vs, HE.out, HY2.out⟩
end Go.Proofs.YtiknhfbkphoceaaGreatDoor
namespace Go.Proofs.YtiknhfbkphoceaaGreatDoor
open Go.RowKit

set_option maxRecDepth 100000 in
set_option maxHeartbeats 1000000 in
theorem SortStable_any (W0 : World) (base g c n : Nat) (xs0 : List Int) (Fc : FuncId) (cap : Array Value) (kf : Int → Int → Int) (hn : n ≤ 100)
    (hc : ∀ (a : Array Value) (W : World), (callFunc Fc a).run Tryz.prog W = .ok (.enter Fc a) W) (hk : AsksOnly W0 g Fc cap xs0 kf) (w : Int → Int) (hkf : ∀ x y, kf x y < 0 ↔ w y < w x) (xs : List Int) (W : World) (h : SortNow W0 W base g c n xs) (hx0 : ∀ x ∈ xs, x ∈ xs0) (hasc : Seg (· < ·) xs 0 n) :
    Calls Tryz.prog 15 #[.slice (some ⟨g, 0, none⟩) n c, .func (.func Fc) #[] cap] W fun e W' => e = .returned (.tuple #[]) ∧ ∃ ys, (ys.Perm xs ∧ Seg (ltW w) ys 0 n) ∧ SortNow W0 W' base g c n ys := by
  have HC := Lib.hid (stable_any W0 base g c n xs0 Fc cap kf hn hc hk w hkf xs W h hx0 hasc)
  have hn2 : n ≤ 9223372036854775807 := by omega
  clear h hx0 hk hc hasc hkf
  go_enter Tryz.func15, Tryz.ntmps15
  go_wp2_with fail
  refine HC.out.mono ?_
  rintro e w1 ⟨rfl, zs, hp, hz⟩
  have HZ := Lib.hid (And.intro hp hz)
  clear hp hz
  go_wp2_with fail
  go_end0
  exact ⟨rfl, zs, HZ.out⟩
/-- cmp.Compare of numbers. -/
def cmpI (x y : Int) : Int := if x < y then -1 else if x > y then 1 else 0
theorem cmpI_neg (x y : Int) : cmpI x y < 0 ↔ x < y := by
  unfold cmpI
  split
  · omega
  · split <;> omega
theorem isNaN_any (x : Int) (W : World) : Calls Tryz.prog 38 #[.int .i64 x] W fun e W' => e = .returned (.bool false) ∧ W' = W := by
  go_enter Tryz.func38, Tryz.ntmps38
  go_wp2_with fail
  go_ret
  exact ⟨ret_bool (by simp), rfl⟩
set_option maxRecDepth 100000 in
set_option maxHeartbeats 1000000 in
theorem Compare_any (x y : Int) (W : World) : Calls Tryz.prog 17 #[.int .i64 x, .int .i64 y] W fun e W' => e = .returned (.int .i64 (cmpI x y)) ∧ W' = W := by
  obtain ⟨r, hr⟩ : ∃ r, cmpI x y = r := ⟨_, rfl⟩
  rw [hr]
  have HR := Lib.hid hr
  clear hr
  go_enter Tryz.func17, Tryz.ntmps17
  go_wp2_with fail
  refine (isNaN_any x W).mono ?_
  rintro e w1 ⟨rfl, rfl⟩
  go_wp2_with fail
  refine (isNaN_any y _).mono ?_
  rintro e w1 ⟨rfl, rfl⟩
  by_cases h1 : x < y
  · have HE : Hid (cmpI x y = -1) := Lib.hid (by unfold cmpI; rw [if_pos h1])
    go_wp2_with fail
    go_ret
    exact ⟨ret_int (HE.out.symm.trans HR.out), rfl⟩
  · by_cases h2 : x > y
    · have HE : Hid (cmpI x y = 1) := Lib.hid (by unfold cmpI; rw [if_neg h1, if_pos h2])
      go_wp2_with fail
      go_ret
      exact ⟨ret_int (HE.out.symm.trans HR.out), rfl⟩
    · have HE : Hid (cmpI x y = 0) := Lib.hid (by unfold cmpI; rw [if_neg h1, if_neg h2])
      go_wp2_with fail
      go_ret
      exact ⟨ret_int (HE.out.symm.trans HR.out), rfl⟩
set_option maxRecDepth 100000 in
set_option maxHeartbeats 1000000 in
theorem Order_any (bw : Nat) (wv : Value) (ws : List Int) (x y : Int) (W : World) (hb : Blk W bw 26 #[wv]) (hv : IntsAt W W.heap.size wv ws) (hx : 0 ≤ x ∧ x < (ws.length : Int)) (hy : 0 ≤ y ∧ y < (ws.length : Int)) :
    Calls Tryz.prog 16 (#[.int .i64 x, .int .i64 y] ++ #[.pointer (some ⟨bw, 0, none⟩)]) W fun e W' => e = .returned (.int .i64 (cmpI (ws.getD y.toNat 0) (ws.getD x.toNat 0))) ∧ ∃ m, W' = W.drewN m := by
  obtain ⟨a, rfl⟩ : ∃ a : Nat, x = (a : Int) := ⟨x.toNat, by omega⟩
  obtain ⟨b, rfl⟩ : ∃ b : Nat, y = (b : Int) := ⟨y.toNat, by omega⟩
  obtain ⟨A, c, rfl, h1, h2, h3⟩ := hv
  obtain ⟨gb, off, rfl, _, hcell⟩ := h3 (by omega)
  obtain ⟨p, hp⟩ : ∃ p, ws[a]? = some p := ⟨_, List.getElem?_eq_getElem (by omega)⟩
  obtain ⟨q, hq⟩ : ∃ q, ws[b]? = some q := ⟨_, List.getElem?_eq_getElem (by omega)⟩
  have c1 := hcell a p hp
  have c2 := hcell b q hq
  have b0 := hb.cell 0
  rw [Int.toNat_natCast, Int.toNat_natCast, List.getD_eq_getElem?_getD, List.getD_eq_getElem?_getD, hp, hq]
  simp only [Option.getD_some]
  obtain ⟨l, hl⟩ : ∃ l, ws.length = l := ⟨_, rfl⟩
  rw [hl] at h1 b0 hx hy
  have hx1 := hx.1
  have hx2 := hx.2
  have hy1 := hy.1
  have hy2 := hy.2
  simp only [List.append_toArray, List.cons_append, List.nil_append]
  clear hb hcell h3 hp hq hx hy hl
  go_enter Tryz.func16, Tryz.ntmps16
  go_upto_region 1 with fail
  go_quiet (first | (refine Calls.quiet_of_same (Compare_any _ _ _)))
  go_wp2_with fail
  go_ret
  exact ⟨rfl, _, rfl⟩
end Go.Proofs.YtiknhfbkphoceaaGreatDoor
namespace Go.Proofs.YtiknhfbkphoceaaGreatDoor
open Go.RowKit

theorem own_more {w : World} {base base' : Nat} {v : Value} {xs : List Int} (h : OwnInts w base v xs) (hb : base' ≤ base) : OwnInts w base' v xs := by
  obtain ⟨h1, h2⟩ := h
  refine ⟨h1, ?_⟩
  rcases h2 with h2 | ⟨g, cap, cur, e, hg, h3⟩
  · exact .inl h2
  · exact .inr ⟨g, cap, cur, e, by omega, h3⟩
theorem own_block_lt {w : World} {base : Nat} {v : Value} {xs : List Int} (h : OwnInts w base v xs) {k : Nat} (e : v.ownBlock = some k) : k < w.heap.size := by
  rcases h.2 with ⟨rfl, _⟩ | ⟨g, cap, cur, rfl, _, hh, _⟩
  · cases e
  · cases e
    exact (Array.getElem?_eq_some_iff.1 hh).1
/-- The painter while the registers get places. -/
structure PNow (B : Nat) (W : World) (bp gp : Nat) (f : FunU) (bv xv av gv : Value) (rows : List (List Int)) (acr giv ps : List Int) : Prop where
  blk : Blk W bp 46 #[.string f.name, .int .i64 f.params, .int .i64 f.regs, bv, xv, av, gv, .slice (some ⟨gp, 0, none⟩) ps.length ps.length]
  blks : BlksAt W B bv f.blocks
  rows : RowsAt W B xv rows
  acr : IntsAt W B av acr
  giv : OwnInts W B gv giv
  far : gv.ownBlock ≠ some gp
  pl : Blk W gp 3 (intsC ps)
  low : B ≤ gp ∧ B ≤ bp
section
variable {B : Nat} {W W' : World} {bp gp : Nat} {f : FunU} {bv xv av gv : Value} {rows : List (List Int)} {acr giv ps : List Int}
theorem PNow.size (h : PNow B W bp gp f bv xv av gv rows acr giv ps) : B ≤ W.heap.size := Nat.le_of_lt (Nat.lt_of_le_of_lt h.low.1 h.pl.lt)
theorem PNow.paint (h : PNow B W bp gp f bv xv av gv rows acr giv ps) : PaintAt W bp gp f bv xv av gv rows acr giv ps :=
  have hk : Kept W W B := fun _ _ _ => rfl
  ⟨h.blk, h.blks.move h.size hk, h.rows.move h.size hk, h.acr.move h.size hk, h.giv.ints, h.pl⟩
theorem own_but {v : Value} {xs : List Int} {base g : Nat} (h : OwnInts W base v xs) (hb : BelowBut g W.heap.size W W') (hn : v.ownBlock ≠ some g) : OwnInts W' base v xs :=
  World.ownsRow.kept (row := some g) h ⟨hb.os, hb.tape, hb.output, hb.size, fun k hk hne => hb.block k hk (fun e => hne (by rw [e]))⟩ (.inr hn)
theorem own_stay {v : Value} {xs : List Int} {base g S : Nat} (h : OwnInts W base v xs) (hb : BelowBut g S W W') (h3 : ∀ k, v.ownBlock = some k → k < S ∧ k ≠ g) : OwnInts W' base v xs := by
  refine ⟨h.1, ?_⟩
  rcases h.2 with hn | ⟨k, cap, cur, rfl, hb', hgg, rest⟩
  · exact .inl hn
  · obtain ⟨h4, h5⟩ := h3 k rfl
    exact .inr ⟨k, cap, cur, rfl, hb', (hb.block k h4 h5).trans hgg, rest⟩
theorem PNow.but (h : PNow B W bp gp f bv xv av gv rows acr giv ps) {g : Nat} (hb : BelowBut g W.heap.size W W') (hg : B ≤ g) (h1 : bp ≠ g) (h2 : gp ≠ g) (h3 : gv.ownBlock ≠ some g) : PNow B W' bp gp f bv xv av gv rows acr giv ps :=
  have hk := hb.kept (B := B) h.size hg
  ⟨hb.blk h.blk h.blk.lt h1, h.blks.move (Nat.le_refl _) hk, h.rows.move (Nat.le_refl _) hk, h.acr.move (Nat.le_refl _) hk, own_but h.giv hb h3, h.far, hb.blk h.pl h.pl.lt h2, h.low⟩
theorem PNow.below (h : PNow B W bp gp f bv xv av gv rows acr giv ps) (hb : Below W.heap.size W W') : PNow B W' bp gp f bv xv av gv rows acr giv ps :=
  have hk := kept_of hb h.size
  ⟨h.blk.below hb h.blk.lt, h.blks.move (Nat.le_refl _) hk, h.rows.move (Nat.le_refl _) hk, h.acr.move (Nat.le_refl _) hk, h.giv.below hb rfl, h.far, h.pl.below hb h.pl.lt, h.low⟩
theorem PNow.stay (h : PNow B W bp gp f bv xv av gv rows acr giv ps) {g S : Nat} (hb : BelowBut g S W W') (hS : B ≤ S) (hg : B ≤ g) (h1 : bp < S ∧ bp ≠ g) (h2 : gp < S ∧ gp ≠ g) (h3 : ∀ k, gv.ownBlock = some k → k < S ∧ k ≠ g) : PNow B W' bp gp f bv xv av gv rows acr giv ps :=
  have hk := hb.kept (B := B) hS hg
  ⟨hb.blk h.blk h1.1 h1.2, h.blks.move (Nat.le_refl _) hk, h.rows.move (Nat.le_refl _) hk, h.acr.move (Nat.le_refl _) hk, own_stay h.giv hb h3, h.far, hb.blk h.pl h2.1 h2.2, h.low⟩
theorem PNow.apart (h : PNow B W bp gp f bv xv av gv rows acr giv ps) : bp ≠ gp := blk_ne h.blk h.pl (by decide)
theorem PNow.put (h : PNow B W bp gp f bv xv av gv rows acr giv ps) (k : Nat) (x : Int) : PNow B (W.setCell ⟨gp, k, none⟩ (.int .i64 x)) bp gp f bv xv av gv rows acr giv (ps.set k x) := by
  have hb := BelowBut.set gp W.heap.size W k (.int .i64 x)
  have hk := hb.kept (B := B) h.size h.low.1
  refine ⟨?_, h.blks.move (Nat.le_refl _) hk, h.rows.move (Nat.le_refl _) hk, h.acr.move (Nat.le_refl _) hk, own_but h.giv hb h.far, h.far, ?_, h.low⟩
  · rw [List.length_set]
    exact hb.blk h.blk h.blk.lt h.apart
  · have := h.pl.set_ k (.int .i64 x)
    rwa [intsC_set] at this
end

set_option maxRecDepth 100000 in
theorem insertionNone (fv : Value) (W : World) : Calls Tryz.prog 59 #[.slice none 0 0, .int .i64 0, .int .i64 0, fv] W fun e W' => e = .returned (.tuple #[]) ∧ W' = W := by
  go_enter Tryz.func59, Tryz.ntmps59
  go_upto_region 1 with fail
  go_loopg [8] 0 (fun _ ui wx => ui = .int .i64 1 ∧ wx = W)
  case atStart => exact ⟨by go_num, rfl⟩
  case round =>
    obtain ⟨rfl, rfl⟩ := hrel
    go_wp2_with fail
    go_end0
    exact ⟨rfl, rfl⟩
set_option maxRecDepth 100000 in
theorem stableNone (fv : Value) (W : World) : Calls Tryz.prog 37 #[.slice none 0 0, .int .i64 0, fv] W fun e W' => e = .returned (.tuple #[]) ∧ W' = W := by
  go_enter Tryz.func37, Tryz.ntmps37
  go_upto_region 2 with fail
  go_loopg [7, 8] 0 (fun _ ua ub wx => ua = .int .i64 0 ∧ ub = .int .i64 20 ∧ wx = W)
  case atStart => exact ⟨rfl, by go_num, rfl⟩
  case round =>
    obtain ⟨rfl, rfl, rfl⟩ := hrel
    go_upto_region 6 with fail
    go_wp2_with fail
    refine (insertionNone fv _).mono ?_
    rintro e w1 ⟨rfl, rfl⟩
    go_upto_region 7 with fail
    go_loopg [6] 0 (fun _ us wx => us = .int .i64 20 ∧ wx = w1)
    case atStart => exact ⟨rfl, rfl⟩
    case round =>
      obtain ⟨rfl, rfl⟩ := hrel
      go_wp2_with fail
      go_end0
      exact ⟨rfl, rfl⟩
set_option maxRecDepth 100000 in
theorem SortNone_any (fv : Value) (W : World) : Calls Tryz.prog 15 #[.slice none 0 0, fv] W fun e W' => e = .returned (.tuple #[]) ∧ W' = W := by
  go_enter Tryz.func15, Tryz.ntmps15
  go_wp2_with fail
  refine (stableNone fv W).mono ?_
  rintro e w1 ⟨rfl, rfl⟩
  go_wp2_with fail
  go_end0
  exact ⟨rfl, rfl⟩

/-- The row sorted: in whatever block it lies. -/
theorem SortOwn_any (W : World) (base : Nat) (v : Value) (xs : List Int) (Fc : FuncId) (cap : Array Value) (kf : Int → Int → Int) (hn : xs.length ≤ 100)
    (hc : ∀ (a : Array Value) (W : World), (callFunc Fc a).run Tryz.prog W = .ok (.enter Fc a) W) (hk : ∀ g, base ≤ g → AsksOnly W g Fc cap xs kf) (w : Int → Int) (hkf : ∀ x y, kf x y < 0 ↔ w y < w x) (hasc : Seg (· < ·) xs 0 xs.length) (h : OwnInts W base v xs) (hb : base ≤ W.heap.size) :
    Calls Tryz.prog 15 #[v, .func (.func Fc) #[] cap] W fun e W' => e = .returned (.tuple #[]) ∧ ∃ ys g, base ≤ g ∧ (ys.Perm xs ∧ Seg (ltW w) ys 0 ys.length) ∧ OwnInts W' base v ys ∧ BelowBut g W.heap.size W W' := by
  rcases id h.2 with ⟨rfl, hl⟩ | ⟨g, c, cur, rfl, hg, hgg, rest⟩
  · refine (SortNone_any _ W).mono ?_
    rintro e W' ⟨rfl, rfl⟩
    exact ⟨rfl, xs, base, Nat.le_refl _, ⟨List.Perm.refl _, fun i j x y _ _ hj => by omega⟩, h, BelowBut.refl _ _ _⟩
  · refine (SortStable_any W base g c xs.length xs Fc cap kf hn hc (hk g hg) w hkf xs W ⟨h, BelowBut.refl _ _ _, rfl⟩ (fun x hx => hx) hasc).mono ?_
    rintro e W' ⟨rfl, ys, hp, hs⟩
    exact ⟨rfl, ys, g, hg, ⟨hp.1, by rw [hp.1.length_eq]; exact hp.2⟩, hs.own, hs.but⟩
theorem copy_dst {ps : List Int} {regs : Int} {x : InsU} (h : insE ps regs x = 0) (hop : x.op = 1) : 0 ≤ x.dst ∧ x.dst < regs := by
  unfold insE at h
  split at h
  · cases h
  · split at h
    · cases h
    · split at h
      · rename_i h3; exact absurd h h3.2.2
      · rename_i h3
        refine dst_ok (Classical.byContradiction fun h7 => h3 ⟨?_, fun h => by omega, h7⟩)
        unfold hasD
        rw [hop]
        decide
theorem wish_ok {gs : List Glob} {fs : List FunU} (hu : UnitOk gs fs) {i : Nat} {f : FunU} (hf : fs[i]? = some f) {n : Nat} (hn : f.regs = (n : Int)) {ps : List Int} (hp : ps.length = n) : WishOk f.blocks ps := by
  have h := hu.bodies _ _ hf
  have hbo := body_ok h
  unfold bodyE at h
  split at h
  · rename_i h1; exact absurd h h1
  · intro b hb x hx hop hreg
    obtain ⟨k, hk⟩ := List.mem_iff_getElem?.1 hb
    obtain ⟨j, hj⟩ := List.mem_iff_getElem?.1 hx
    have h2 : blkE _ f.regs (aheadU f.blocks) k b = 0 := firstE_zero h hk
    unfold blkE at h2
    split at h2
    · rename_i h3; exact absurd h2 h3
    · have h4 := copy_dst (firstE_zero h2 hj) hop
      have h5 := (hbo.list b hb x hx).a hreg
      rw [hp, ← hn]
      exact ⟨h4, h5⟩
/-- The values of a drawn region's operations that are known ahead. -/
def pv9 (v0 v1 v2 v3 v4 v5 v6 v7 v10 : Value) : Nat → Option Value
  | 0 => some v0 | 1 => some v1 | 2 => some v2 | 3 => some v3 | 4 => some v4 | 5 => some v5 | 6 => some v6 | 7 => some v7 | 9 => some v5 | 10 => some v10
  | _ => none
/-- What has been done of the making of a painter, and what the world holds of it. -/
structure MkRun (pv : Nat → Option Value) (w0 : World) (nr : Nat) (giv : List Int) (p1 p2 p3 bv xv av : Value) (σ : Nat → Option Value) (w : World) : Prop where
  below : Below w0.heap.size w0 w
  known : ∀ j v, pv j = some v → ∀ u, σ j = some u → u = v
  giv : ∀ u, σ 8 = some u → OwnInts w w0.heap.size u giv
  made : ∀ u, σ 11 = some u → ∃ gp, u = .slice (some ⟨gp, 0, none⟩) nr nr ∧ w0.heap.size ≤ gp ∧ Blk w gp 3 (intsC (List.replicate nr 0)) ∧ ∀ u8, σ 8 = some u8 → u8.ownBlock ≠ some gp
  built : ∀ u, σ 12 = some u → ∃ gv mv, σ 8 = some gv ∧ σ 11 = some mv ∧ u = .agg #[p1, p2, p3, bv, xv, av, gv, mv]
  boxed : ∀ u, σ 13 = some u → ∃ bp gv mv, σ 8 = some gv ∧ σ 11 = some mv ∧ u = .pointer (some ⟨bp, 0, none⟩) ∧ w0.heap.size ≤ bp ∧ Blk w bp 46 #[p1, p2, p3, bv, xv, av, gv, mv]
  last : ∀ u, σ 14 = some u → σ 13 = some u
section
variable {pv : Nat → Option Value} {w0 : World} {nr : Nat} {giv : List Int} {p1 p2 p3 bv xv av : Value} {σ : Nat → Option Value} {w w' : World}
theorem MkRun.start (h : Below w0.heap.size w0 w) : MkRun pv w0 nr giv p1 p2 p3 bv xv av (fun _ => none) w :=
  ⟨h, by simp, by simp, by simp, by simp, by simp, by simp⟩
theorem MkRun.later (h : MkRun pv w0 nr giv p1 p2 p3 bv xv av σ w) (hb : Below w.heap.size w w') : MkRun pv w0 nr giv p1 p2 p3 bv xv av σ w' := by
  refine ⟨h.below.trans (hb.mono h.below.size), h.known, fun u hu => (h.giv u hu).below hb rfl, fun u hu => ?_, h.built, fun u hu => ?_, h.last⟩
  · obtain ⟨gp, h1, h2, h3, h4⟩ := h.made u hu
    exact ⟨gp, h1, h2, h3.below hb h3.lt, h4⟩
  · obtain ⟨bp, gv, mv, h1, h2, h3, h4, h5⟩ := h.boxed u hu
    exact ⟨bp, gv, mv, h1, h2, h3, h4, h5.below hb h5.lt⟩
theorem MkRun.val (h : MkRun pv w0 nr giv p1 p2 p3 bv xv av σ w) {k : Nat} {u v : Value} (hu : σ k = some u) (hp : pv k = some v) : u = v := h.known k v hp u hu
theorem MkRun.keep {k : Nat} (hd : pv k = none) (v : Value) (h : ∀ j v, pv j = some v → ∀ u, σ j = some u → u = v) : ∀ j v', pv j = some v' → ∀ u, upd σ k v j = some u → u = v' := by
  intro j v' hj u hu
  rw [upd_ne fun e => by rw [e, hd] at hj; cases hj] at hu
  exact h j v' hj u hu
theorem MkRun.say (h : MkRun pv w0 nr giv p1 p2 p3 bv xv av σ w) {k : Nat} {v : Value} (hk : pv k = some v) (hd : k ≠ 8 ∧ k ≠ 11 ∧ k ≠ 12 ∧ k ≠ 13 ∧ k ≠ 14) : MkRun pv w0 nr giv p1 p2 p3 bv xv av (upd σ k v) w := by
  obtain ⟨n1, n2, n3, n4, n5⟩ := hd
  refine ⟨h.below, fun j v' hj u hu => ?_, fun u hu => ?_, fun u hu => ?_, fun u hu => ?_, fun u hu => ?_, fun u hu => ?_⟩
  · by_cases e : j = k
    · subst e
      rw [upd_same] at hu
      rw [hk] at hj
      cases hj
      cases hu
      rfl
    · rw [upd_ne e] at hu
      exact h.known j v' hj u hu
  · rw [upd_ne n1.symm] at hu
    exact h.giv u hu
  · rw [upd_ne n2.symm] at hu
    obtain ⟨gp, h1, h2, h3, h4⟩ := h.made u hu
    exact ⟨gp, h1, h2, h3, fun u8 h8 => h4 u8 (by rwa [upd_ne n1.symm] at h8)⟩
  · rw [upd_ne n3.symm] at hu
    obtain ⟨gv, mv, h1, h2, h3⟩ := h.built u hu
    exact ⟨gv, mv, by rw [upd_ne n1.symm]; exact h1, by rw [upd_ne n2.symm]; exact h2, h3⟩
  · rw [upd_ne n4.symm] at hu
    obtain ⟨bp, gv, mv, h1, h2, h3⟩ := h.boxed u hu
    exact ⟨bp, gv, mv, by rw [upd_ne n1.symm]; exact h1, by rw [upd_ne n2.symm]; exact h2, h3⟩
  · rw [upd_ne n5.symm] at hu
    rw [upd_ne n4.symm]
    exact h.last u hu
theorem MkRun.call (h : MkRun pv w0 nr giv p1 p2 p3 bv xv av σ w) (hd : pv 8 = none) (h12 : σ 12 = none) (h13 : σ 13 = none) {u : Value} (hb : Below w.heap.size w w') (hu : OwnInts w' w.heap.size u giv) : MkRun pv w0 nr giv p1 p2 p3 bv xv av (upd σ 8 u) w' := by
  have h' := h.later hb
  refine ⟨h'.below, MkRun.keep hd u h'.known, fun v hv => ?_, fun v hv => ?_, fun v hv => ?_, fun v hv => ?_, fun v hv => ?_⟩
  · rw [upd_same] at hv
    cases hv
    exact own_more hu h.below.size
  · rw [upd_ne (by decide)] at hv
    obtain ⟨gp, h1, h2, h3, h4⟩ := h'.made v hv
    refine ⟨gp, h1, h2, h3, fun u8 h8 => ?_⟩
    rw [upd_same] at h8
    cases h8
    obtain ⟨gp', h1', h2', h3', _⟩ := h.made v hv
    have : gp = gp' := by rw [h1] at h1'; simpa using h1'
    intro e
    have := own_block_ge hu gp e
    have := h3'.lt
    omega
  · rw [upd_ne (by decide), h12] at hv
    cases hv
  · rw [upd_ne (by decide), h13] at hv
    cases hv
  · rw [upd_ne (by decide)] at hv
    have := h.last v hv
    rw [h13] at this
    cases this
theorem MkRun.make (h : MkRun pv w0 nr giv p1 p2 p3 bv xv av σ w) (hd : pv 11 = none) (h12 : σ 12 = none) (h13 : σ 13 = none) :
    MkRun pv w0 nr giv p1 p2 p3 bv xv av (upd σ 11 (.slice (some ⟨w.heap.size, 0, none⟩) nr nr)) (w.alloc (.cells (madeCells #[.int .i64 0] nr) 3)) := by
  have h' := h.later ((Below.refl _ _).alloc (Nat.le_refl _) (.cells (madeCells #[.int .i64 0] nr) 3))
  refine ⟨h'.below, MkRun.keep hd _ h'.known, fun v hv => ?_, fun v hv => ?_, fun v hv => ?_, fun v hv => ?_, fun v hv => ?_⟩
  · rw [upd_ne (by decide)] at hv
    exact h'.giv v hv
  · rw [upd_same] at hv
    cases hv
    refine ⟨_, rfl, h.below.size, ?_, fun u8 h8 e => ?_⟩
    · have := Blk.new w 3 (madeCells #[.int .i64 0] nr)
      rwa [made_ints] at this ⊢
    · rw [upd_ne (by decide)] at h8
      have := own_block_lt (h.giv u8 h8) e
      omega
  · rw [upd_ne (by decide), h12] at hv
    cases hv
  · rw [upd_ne (by decide), h13] at hv
    cases hv
  · rw [upd_ne (by decide)] at hv
    have := h.last v hv
    rw [h13] at this
    cases this
theorem MkRun.build (h : MkRun pv w0 nr giv p1 p2 p3 bv xv av σ w) (hd : pv 12 = none) {gv mv : Value} (h8 : σ 8 = some gv) (h11 : σ 11 = some mv) : MkRun pv w0 nr giv p1 p2 p3 bv xv av (upd σ 12 (.agg #[p1, p2, p3, bv, xv, av, gv, mv])) w := by
  refine ⟨h.below, MkRun.keep hd _ h.known, fun v hv => ?_, fun v hv => ?_, fun v hv => ?_, fun v hv => ?_, fun v hv => ?_⟩
  · rw [upd_ne (by decide)] at hv
    exact h.giv v hv
  · rw [upd_ne (by decide)] at hv
    obtain ⟨gp, h1, h2, h3, h4⟩ := h.made v hv
    exact ⟨gp, h1, h2, h3, fun u8 h8 => h4 u8 (by rwa [upd_ne (by decide)] at h8)⟩
  · rw [upd_same] at hv
    cases hv
    exact ⟨gv, mv, by rw [upd_ne (by decide)]; exact h8, by rw [upd_ne (by decide)]; exact h11, rfl⟩
  · rw [upd_ne (by decide)] at hv
    obtain ⟨bp, gv, mv, h1, h2, h3⟩ := h.boxed v hv
    exact ⟨bp, gv, mv, by rw [upd_ne (by decide)]; exact h1, by rw [upd_ne (by decide)]; exact h2, h3⟩
  · rw [upd_ne (by decide)] at hv
    rw [upd_ne (by decide)]
    exact h.last v hv
theorem MkRun.box (h : MkRun pv w0 nr giv p1 p2 p3 bv xv av σ w) (hd : pv 13 = none) (h14 : σ 14 = none) {gv mv : Value} (h8 : σ 8 = some gv) (h11 : σ 11 = some mv) :
    MkRun pv w0 nr giv p1 p2 p3 bv xv av (upd σ 13 (.pointer (some ⟨w.heap.size, 0, none⟩))) (w.alloc (.cells #[p1, p2, p3, bv, xv, av, gv, mv] 46)) := by
  have h' := h.later ((Below.refl _ _).alloc (Nat.le_refl _) (.cells #[p1, p2, p3, bv, xv, av, gv, mv] 46))
  refine ⟨h'.below, MkRun.keep hd _ h'.known, fun v hv => ?_, fun v hv => ?_, fun v hv => ?_, fun v hv => ?_, fun v hv => ?_⟩
  · rw [upd_ne (by decide)] at hv
    exact h'.giv v hv
  · rw [upd_ne (by decide)] at hv
    obtain ⟨gp, h1, h2, h3, h4⟩ := h'.made v hv
    exact ⟨gp, h1, h2, h3, fun u8 h8 => h4 u8 (by rwa [upd_ne (by decide)] at h8)⟩
  · rw [upd_ne (by decide)] at hv
    obtain ⟨gv, mv, h1, h2, h3⟩ := h'.built v hv
    exact ⟨gv, mv, by rw [upd_ne (by decide)]; exact h1, by rw [upd_ne (by decide)]; exact h2, h3⟩
  · rw [upd_same] at hv
    cases hv
    exact ⟨_, gv, mv, by rw [upd_ne (by decide)]; exact h8, by rw [upd_ne (by decide)]; exact h11, rfl, h.below.size, Blk.new _ _ _⟩
  · rw [upd_ne (by decide), h14] at hv
    cases hv
theorem MkRun.end_ (h : MkRun pv w0 nr giv p1 p2 p3 bv xv av σ w) (hd : pv 14 = none) {u : Value} (h13 : σ 13 = some u) : MkRun pv w0 nr giv p1 p2 p3 bv xv av (upd σ 14 u) w := by
  refine ⟨h.below, MkRun.keep hd _ h.known, fun v hv => ?_, fun v hv => ?_, fun v hv => ?_, fun v hv => ?_, fun v hv => ?_⟩
  · rw [upd_ne (by decide)] at hv
    exact h.giv v hv
  · rw [upd_ne (by decide)] at hv
    obtain ⟨gp, h1, h2, h3, h4⟩ := h.made v hv
    exact ⟨gp, h1, h2, h3, fun u8 h8 => h4 u8 (by rwa [upd_ne (by decide)] at h8)⟩
  · rw [upd_ne (by decide)] at hv
    obtain ⟨gv, mv, h1, h2, h3⟩ := h.built v hv
    exact ⟨gv, mv, by rw [upd_ne (by decide)]; exact h1, by rw [upd_ne (by decide)]; exact h2, h3⟩
  · rw [upd_ne (by decide)] at hv
    obtain ⟨bp, gv, mv, h1, h2, h3⟩ := h.boxed v hv
    exact ⟨bp, gv, mv, by rw [upd_ne (by decide)]; exact h1, by rw [upd_ne (by decide)]; exact h2, h3⟩
  · rw [upd_same] at hv
    cases hv
    rw [upd_ne (by decide)]
    exact h13
theorem MkRun.done (h : MkRun pv w0 nr giv p1 p2 p3 bv xv av σ w) {u8 u11 u14 : Value} (h8 : σ 8 = some u8) (h11 : σ 11 = some u11) (h14 : σ 14 = some u14) :
    ∃ bp gp, u14 = .pointer (some ⟨bp, 0, none⟩) ∧ Blk w bp 46 #[p1, p2, p3, bv, xv, av, u8, .slice (some ⟨gp, 0, none⟩) nr nr] ∧ OwnInts w w0.heap.size u8 giv ∧ u8.ownBlock ≠ some gp ∧ Blk w gp 3 (intsC (List.replicate nr 0)) ∧ (w0.heap.size ≤ gp ∧ w0.heap.size ≤ bp) ∧ Below w0.heap.size w0 w := by
  have e := h.last u14 h14
  obtain ⟨bp, gv, mv, e1, e2, e3, e4, e5⟩ := h.boxed u14 e
  obtain ⟨gp, m1, m2, m3, m4⟩ := h.made u11 h11
  rw [h8] at e1
  rw [h11] at e2
  cases e1
  cases e2
  subst m1
  exact ⟨bp, gp, e3, e5, h.giv u8 h8, m4 u8 h8, m3, ⟨m2, e4⟩, h.below⟩
end
/-- A store behind a call: what has been done, and what the world holds of it. -/
def PutRun (pv : Nat → Option Value) (w0 : World) (k : Nat) (p : Addr) (x : Value) (σ : Nat → Option Value) (w : World) : Prop :=
  (∀ j v, pv j = some v → ∀ u, σ j = some u → u = v) ∧ ((σ k = none ∧ Below w0.heap.size w0 w) ∨ ∃ u w1, σ k = some u ∧ Below w0.heap.size w0 w1 ∧ w = w1.setCell p x)
section
variable {pv : Nat → Option Value} {w0 : World} {k : Nat} {p : Addr} {x : Value} {σ : Nat → Option Value} {w w' : World}
theorem PutRun.start (h : Below w0.heap.size w0 w) : PutRun pv w0 k p x (fun _ => none) w := ⟨by simp, .inl ⟨rfl, h⟩⟩
theorem PutRun.low (h : PutRun pv w0 k p x σ w) (hk : σ k = none) : Below w0.heap.size w0 w := by
  rcases h.2 with h | ⟨u, _, h, _⟩
  · exact h.2
  · rw [hk] at h
    cases h
theorem PutRun.val (h : PutRun pv w0 k p x σ w) {j : Nat} {u v : Value} (hu : σ j = some u) (hp : pv j = some v) : u = v := h.1 j v hp u hu
theorem PutRun.say (h : PutRun pv w0 k p x σ w) (hk : σ k = none) {j : Nat} {v : Value} (hj : pv j = some v) (hn : k ≠ j) (hb : Below w.heap.size w w') : PutRun pv w0 k p x (upd σ j v) w' := by
  refine ⟨fun i v' hi u hu => ?_, .inl ⟨by rw [upd_ne hn]; exact hk, (h.low hk).trans (hb.mono (h.low hk).size)⟩⟩
  by_cases e : i = j
  · subst e
    rw [upd_same] at hu
    rw [hj] at hi
    cases hi
    cases hu
    rfl
  · rw [upd_ne e] at hu
    exact h.1 i v' hi u hu
theorem PutRun.put (h : PutRun pv w0 k p x σ w) (hk : σ k = none) (hd : pv k = none) (u : Value) : PutRun pv w0 k p x (upd σ k u) (w.setCell p x) := by
  refine ⟨fun i v' hi u' hu => ?_, .inr ⟨u, w, upd_same _ _ _, h.low hk, rfl⟩⟩
  rw [upd_ne fun e => by rw [e, hd] at hi; cases hi] at hu
  exact h.1 i v' hi u' hu
theorem PutRun.done (h : PutRun pv w0 k p x σ w) {u : Value} (hk : σ k = some u) : ∃ w1, Below w0.heap.size w0 w1 ∧ w = w1.setCell p x := by
  rcases h.2 with h | ⟨_, w1, _, h⟩
  · rw [hk] at h
    cases h.1
  · exact ⟨w1, h⟩
end
/-- The painter's region of a paint: what its operations yield. -/
def pvP (v0 v2 v3 v4 v6 v7 v8 : Value) : Nat → Option Value
  | 0 => some v0 | 1 => some v0 | 2 => some v2 | 3 => some v3 | 4 => some v4 | 5 => some v0 | 6 => some v6 | 7 => some v7 | 8 => some v8
  | _ => none
/-- Who is to have a place. -/
def presentB (ws bg : List Int) (r : Int) : Bool := decide (0 < ws.getD r.toNat 0) || hasN bg r
def presentL (ws bg : List Int) (n : Nat) : List Int := ((List.range n).map fun (r : Nat) => (r : Int)).filter (presentB ws bg)
theorem presentL_succ (ws bg : List Int) (n : Nat) : presentL ws bg (n + 1) = presentL ws bg n ++ if presentB ws bg (n : Int) = true then [(n : Int)] else [] := by
  unfold presentL
  rw [List.range_succ, List.map_append, List.filter_append]
  congr 1
  simp only [List.map_cons, List.map_nil, List.filter_cons, List.filter_nil]
theorem presentL_mem {ws bg : List Int} {n : Nat} {r : Int} : r ∈ presentL ws bg n ↔ (0 ≤ r ∧ r < (n : Int)) ∧ presentB ws bg r = true := by
  unfold presentL
  rw [List.mem_filter, List.mem_map]
  constructor
  · rintro ⟨⟨k, hk, rfl⟩, h2⟩
    exact ⟨⟨by omega, by have := List.mem_range.1 hk; omega⟩, h2⟩
  · rintro ⟨⟨h0, h1⟩, h2⟩
    exact ⟨⟨r.toNat, List.mem_range.2 (by omega), by omega⟩, h2⟩
theorem presentL_nodup (ws bg : List Int) (n : Nat) : (presentL ws bg n).Nodup := by
  unfold presentL
  have h : ((List.range n).map fun (r : Nat) => (r : Int)).Nodup := by
    rw [List.Nodup, List.pairwise_map]
    exact (List.nodup_range (n := n)).imp fun h e => h (by omega)
  exact List.Pairwise.filter _ h
theorem presentL_asc (ws bg : List Int) (n : Nat) : Seg (· < ·) (presentL ws bg n) 0 (presentL ws bg n).length := by
  have h : ((List.range n).map fun (r : Nat) => (r : Int)).Pairwise (· < ·) := by
    rw [List.pairwise_map]
    exact (List.pairwise_lt_range (n := n)).imp fun h => by omega
  have h2 : (presentL ws bg n).Pairwise (· < ·) := List.Pairwise.filter _ h
  intro i j x y _ hij hj hx hy
  have h3 := (List.pairwise_iff_getElem.1 h2) i j (by omega) hj hij
  rw [List.getElem?_eq_getElem (by omega)] at hx hy
  cases hx
  cases hy
  exact h3
theorem presentL_len (ws bg : List Int) (n : Nat) : (presentL ws bg n).length ≤ n := by
  unfold presentL
  refine Nat.le_trans (List.length_filter_le _ _) ?_
  simp
/-- The fault of colour.Of. -/
def colF (gs : List Glob) (fs : List FunU) (k m : Int) : Int × Int := if (clashF gs fs k).1 ≠ 0 then clashF gs fs k else if ¬ (2 ≤ m ∧ m ≤ 14) then (3, -1) else (0, 0)
/-- What the places of a function's registers may be. -/
def Coloured (f : FunU) (rows : List (List Int)) (acr giv ws bg : List Int) (n : Nat) (ps : List Int) : Prop := ∃ order, (order.Perm (presentL ws bg n) ∧ Seg (ltW fun x => ws.getD x.toNat 0) order 0 order.length) ∧ ps = colS (fun ps r => wishesL f giv ps r) rows acr giv (List.replicate n (-1)) order
def ColPost (w : World) (gs : List Glob) (fs : List FunU) (k m : Int) (e : Ending) (w' : World) : Prop :=
  ∃ v ps, e = .returned (.tuple #[v, .agg #[.int .i64 (colF gs fs k m).1, .int .i64 (colF gs fs k m).2]]) ∧ OwnInts w' w.heap.size v ps ∧ Below w.heap.size w w' ∧
    ((colF gs fs k m).1 ≠ 0 → ps = []) ∧ ((colF gs fs k m).1 = 0 → ∀ f, fs[k.toNat]? = some f → Coloured f (ofF gs fs k) (acrossF gs fs k) (givenS m.toNat) (weightsF gs fs k) (listS f.regs.toNat (inU f.blocks 0)) f.regs.toNat ps)
end Go.Proofs.YtiknhfbkphoceaaGreatDoor
