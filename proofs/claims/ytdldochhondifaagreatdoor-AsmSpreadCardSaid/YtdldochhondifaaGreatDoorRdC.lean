/-
  Several texts in one (RdA RdB RdC): what each proves stands at its theorems.
  Conditions: as the theorems say.
-/
import Derived.Test.YtdldochhondifaaGreatDoorKtP
import Derived.Test.YtdldochhondifaaGreatDoorKitD
import Derived.Test.YtdldochhondifaaGreatDoorRdP
import Derived.Test.YtdldochhondifaaGreatDoorLen
import Derived.IntWalk
namespace Go.Proofs.YtdldochhondifaaGreatDoor
open Go.RowKit

theorem BAt.set {w : World} {B : Nat} {v : Value} {xs : List Int} (h : BAt w B v xs) {p : Addr} (hp : B ≤ p.block) (u : Value) : BAt (w.setCell p u) B v xs :=
  h.below ((Below.refl B w).setCell hp u) (Nat.le_refl _)
/-- The Reader in block g: what is left, whether something was bad; the bytes lie below block B. -/
def RdAt (w : World) (g B : Nat) (bs : List Int) (bad : Bool) : Prop := ∃ v, Blk w g 142 #[v, .bool bad] ∧ BAt w B v bs
theorem RdAt.below {w w' : World} {g B B' : Nat} {bs : List Int} {bad : Bool} (h : RdAt w g B bs bad) (hb : Below B' w w') (hg : g < B') (hB : B ≤ g) : RdAt w' g B bs bad := by
  obtain ⟨v, h1, h2⟩ := h
  exact ⟨v, h1.below hb hg, h2.below hb (by omega)⟩
theorem RdAt.alloc {w : World} {g B : Nat} {bs : List Int} {bad : Bool} (h : RdAt w g B bs bad) (hB : B ≤ g) (o : Obj) : RdAt (w.alloc o) g B bs bad := by
  have hlt : g < w.heap.size := by obtain ⟨v, h1, _⟩ := h; exact h1.lt
  exact h.below ((Below.refl w.heap.size w).alloc (Nat.le_refl _) o) hlt hB
theorem RdAt.far {w : World} {g B : Nat} {bs : List Int} {bad : Bool} (h : RdAt w g B bs bad) (hB : B ≤ g) {p : Addr} (hp : g < p.block) (u : Value) : RdAt (w.setCell p u) g B bs bad := by
  obtain ⟨v, h1, h2⟩ := h
  exact ⟨v, h1.far (by omega) u, h2.set (by omega) u⟩
theorem only_set {w : World} {g o : Nat} (u : Value) : w.grownBy (w.setCell ⟨g, o, none⟩ u) (some g) :=
  ⟨rfl, rfl, rfl, by simp [World.setCell], fun i _ hne => Below.heap_setCell w _ u i (by intro h; exact hne (by rw [h]))⟩
theorem only_trans {a b c : World} {row : Option Nat} (h : a.grownBy b row) (k : b.grownBy c row) : a.grownBy c row :=
  ⟨k.os.trans h.os, k.tape.trans h.tape, k.output.trans h.output, Nat.le_trans h.size k.size, fun i hi hne => (k.block i (Nat.lt_of_lt_of_le hi h.size) hne).trans (h.block i hi hne)⟩
theorem only_blk {w w' : World} {g g' : Nat} {t : TypeId} {cs : Array Value} (h : w.grownBy w' (some g)) (hb : Blk w g' t cs) (hne : g' ≠ g) : Blk w' g' t cs :=
  (h.block g' hb.lt (by intro e; cases e; exact hne rfl)).trans hb
theorem only_below {w w' : World} {g : Nat} (h : w.grownBy w' (some g)) (hg : g ≤ w.heap.size) : Below g w w' :=
  ⟨h.os, h.tape, h.output, h.size, fun i hi => h.block i (by omega) (by intro e; cases e; omega)⟩
theorem BAt.tail {w : World} {B b off c : Nat} {x : Int} {l : List Int} (hc : l.length + 1 ≤ c) (h63 : c ≤ 9223372036854775807) (hb : b < B) (hcell : ∀ (k : Nat) (y : Int), (x :: l)[k]? = some y → w.cell? ⟨b, off + k, none⟩ = some (.int .u8 y)) :
    BAt w B (.slice (some ⟨b, off + 1, none⟩) l.length (c - 1)) l := by
  refine ⟨_, c - 1, rfl, by omega, by omega, fun hl => ?_⟩
  refine ⟨b, off + 1, rfl, hb, fun k y hk => ?_⟩
  have := hcell (k + 1) y (by simpa using hk)
  rw [← this]
  congr 2
  omega
theorem BAt.tail1 {w : World} {B b off : Nat} {l : List Int} (hc : l.length + 1 ≤ 1) : BAt w B (.slice (some ⟨b, off, none⟩) l.length 0) l :=
  ⟨_, 0, rfl, by omega, by omega, fun hl => by omega⟩
set_option maxHeartbeats 1000000 in
theorem Byte_any (g B : Nat) (bs : List Int) (bad : Bool) (w : World) (h : RdAt w g B bs bad) (hB : B ≤ g) (hbs : BytesOk bs) :
    Calls Tryz.prog 128 #[.pointer (some ⟨g, 0, none⟩)] w fun e w' => e = .returned (.int .i64 (bs.headD 0)) ∧ RdAt w' g B bs.tail (bad || bs.isEmpty) ∧ w.grownBy w' (some g) := by
  obtain ⟨v, hblk, A, c, rfl, hlc, h63, hcell⟩ := h
  have r0 := hblk.cell 0
  have r1 := hblk.cell 1
  have f0 := hblk.frozen 0
  have f1 := hblk.frozen 1
  have HK := Lib.hid hblk
  have HC := Lib.hid hcell
  clear hcell hblk
  cases bs with
  | nil =>
    go_enter Tryz.func128, Tryz.ntmps128
    go_wp2_with fail
    go_ret
    refine ⟨rfl, ⟨_, by simpa using HK.out.set_ 1 (.bool true), ?_⟩, only_set _⟩
    exact ⟨A, c, rfl, by simp, h63, fun h => by simp at h⟩
  | cons x l =>
    obtain ⟨b, off, rfl, hbB, hcl⟩ := HC.out (by simp)
    have hx := hbs x (by simp)
    have cx : w.cell? ⟨b, off, none⟩ = some (.int .u8 x) := hcl 0 x rfl
    have Hcl := Lib.hid hcl
    simp only [List.length_cons] at hlc
    have hw : IntKind.i64.wrap x = x := by rw [IntKind.wrap_i64]; omega
    clear hcl
    go_enter Tryz.func128, Tryz.ntmps128
    go_wp2_with fail
    · go_ret
      refine ⟨rfl, ⟨_, by simpa using HK.out.set_ 0 _, ?_⟩, only_set _⟩
      exact (BAt.tail1 (by omega)).set (p := ⟨g, 0, none⟩) hB _
    · go_ret
      refine ⟨rfl, ⟨_, by simpa using HK.out.set_ 0 _, ?_⟩, only_set _⟩
      exact (BAt.tail hlc h63 hbB Hcl.out).set (p := ⟨g, 0, none⟩) hB _
end Go.Proofs.YtdldochhondifaaGreatDoor
namespace Go.Proofs.YtdldochhondifaaGreatDoor
open Go.RowKit

theorem xor_i64_ones (x : Nat) (h : x < 9223372036854775808) : bits .xor .i64 (x : Int) (-1) = -(x : Int) - 1 := by
  show IntKind.i64.wrap ((BitVec.ofInt 64 (x : Int) ^^^ BitVec.ofInt 64 (-1)).toNat : Int) = _
  rw [BitVec.toNat_xor, ofInt_u64 x (by omega), show (BitVec.ofInt 64 (-1)).toNat = 18446744073709551615 from by decide, xor_ones x (by omega), IntKind.wrap_i64]
  omega
theorem xor_i64_zero (x : Nat) (h : x < 9223372036854775808) : bits .xor .i64 (x : Int) 0 = (x : Int) := by
  show IntKind.i64.wrap ((BitVec.ofInt 64 (x : Int) ^^^ BitVec.ofInt 64 0).toNat : Int) = _
  rw [BitVec.toNat_xor, ofInt_u64 x (by omega), show (BitVec.ofInt 64 0).toNat = 0 from by decide, Nat.xor_zero, IntKind.wrap_i64]
  omega
theorem unfold_bits (n : Nat) (h : n < 18446744073709551616) : bits .xor .i64 ((n : Int) / 2) (wrap64 (-wrap64 (bits .and .u64 (n : Int) 1))) = unfoldS n := by
  rw [show (1 : Int) = ((1 : Nat) : Int) from rfl, u64_and_nat n 1 h (by omega), Nat.and_one_is_mod, show (n : Int) / 2 = ((n / 2 : Nat) : Int) by omega]
  unfold unfoldS
  rcases (by omega : n % 2 = 0 ∨ n % 2 = 1) with h0 | h1
  · rw [h0, if_neg (by omega), show wrap64 (-wrap64 ((0 : Nat) : Int)) = 0 by unfold wrap64; omega, xor_i64_zero _ (by omega)]
  · rw [h1, if_pos rfl, show wrap64 (-wrap64 ((1 : Nat) : Int)) = -1 by unfold wrap64; omega, xor_i64_ones _ (by omega)]
set_option maxRecDepth 100000 in
set_option maxHeartbeats 1000000 in
theorem Unfold_any (n : Nat) (w : World) (h : n < 18446744073709551616) : Calls Tryz.prog 130 #[.int .u64 n] w fun e w' => e = .returned (.int .i64 (unfoldS n)) ∧ w = w' := by
  have H := Lib.hid (unfold_bits n h)
  go_enter Tryz.func130, Tryz.ntmps130
  go_wp2_with fail
  go_ret
  exact ⟨ret_int H.out, rfl⟩
end Go.Proofs.YtdldochhondifaaGreatDoor
namespace Go.Proofs.YtdldochhondifaaGreatDoor
open Go.RowKit

/-- What Number comes to: the number and what is left, or the flag. -/
def NumEnd (bs : List Int) (bad : Bool) (k : Nat) (rest : List Int) (bad' : Bool) : Prop :=
  match rnS 0 bs with
  | some (n, l) => k = n ∧ rest = l ∧ bad' = bad
  | none => bad' = true
def NumPost (w : World) (g B : Nat) (bs : List Int) (bad : Bool) (e : Ending) (w' : World) : Prop :=
  ∃ (k : Nat) (rest : List Int) (bad' : Bool), e = .returned (.int .u64 k) ∧ k < 18446744073709551616 ∧ RdAt w' g B rest bad' ∧ NumEnd bs bad k rest bad' ∧ w.grownBy w' (some g)
/-- The loop's head: the digits below i are gathered in acc. -/
def NumNow (bs : List Int) (i acc : Nat) (left : List Int) : Prop := rnS 0 bs = (rnS i left).map fun p => (acc + p.1, p.2)
theorem NumEnd.bad {bs : List Int} {bad : Bool} {k : Nat} {rest : List Int} (h : rnS 0 bs = none) : NumEnd bs bad k rest true := by unfold NumEnd; rw [h]
theorem NumEnd.ok {bs : List Int} {bad : Bool} {k : Nat} {rest : List Int} (h : rnS 0 bs = some (k, rest)) : NumEnd bs bad k rest bad := by unfold NumEnd; rw [h]; exact ⟨rfl, rfl, rfl⟩
theorem NumNow.start (bs : List Int) : NumNow bs 0 0 bs := by
  unfold NumNow
  cases rnS 0 bs with
  | none => rfl
  | some p => simp
theorem NumNow.nil {bs : List Int} {i acc : Nat} (h : NumNow bs i acc []) : rnS 0 bs = none := h
theorem NumNow.far {bs left : List Int} {acc : Nat} (h : NumNow bs 10 acc left) : rnS 0 bs = none := by
  unfold NumNow at h
  rw [h]
  cases left with
  | nil => rfl
  | cons d l => unfold rnS; rw [if_pos (.inl (by omega))]; rfl
theorem NumNow.zero {bs l : List Int} {i acc : Nat} (h : NumNow bs i acc (0 :: l)) (hi : 0 < i) : rnS 0 bs = none := by
  unfold NumNow at h
  rw [h]
  unfold rnS
  rw [if_pos (.inr (.inr ⟨rfl, hi⟩))]
  rfl
theorem NumNow.big {bs l : List Int} {d : Int} {acc : Nat} (h : NumNow bs 9 acc (d :: l)) (hd : 1 < d) : rnS 0 bs = none := by
  unfold NumNow at h
  rw [h]
  unfold rnS
  rw [if_pos (.inr (.inl ⟨rfl, hd⟩))]
  rfl
theorem NumNow.last {bs l : List Int} {d : Int} {i acc : Nat} (h : NumNow bs i acc (d :: l)) (hi : i ≤ 9) (h0 : ¬ (d = 0 ∧ 0 < i)) (h9 : ¬ (i = 9 ∧ 1 < d)) (hd : d < 128) : rnS 0 bs = some (acc + d.toNat * 128 ^ i, l) := by
  unfold NumNow at h
  rw [h]
  unfold rnS
  rw [if_neg (by omega), if_pos hd]
  rfl
theorem NumNow.more {bs l : List Int} {d : Int} {i acc : Nat} (h : NumNow bs i acc (d :: l)) (hi : i ≤ 8) (hd : 128 ≤ d) : NumNow bs (i + 1) (acc + (d - 128).toNat * 128 ^ i) l := by
  unfold NumNow at h ⊢
  rw [h]
  conv => lhs; unfold rnS
  rw [if_neg (by omega), if_neg (by omega)]
  cases rnS (i + 1) l with
  | none => rfl
  | some p => simp [Nat.add_assoc]
theorem NumNow.over {bs l l' : List Int} {d : Int} {acc acc' : Nat} (h : NumNow bs 9 acc (d :: l)) (hd : 128 ≤ d) : NumNow bs 10 acc' l' := by
  have h1 := h.big (by omega)
  unfold NumNow
  rw [h1]
  cases l' with
  | nil => rfl
  | cons x y => unfold rnS; rw [if_pos (.inl (by omega))]; rfl
/-- The next digit fits. -/
theorem digit_fits {acc d i : Nat} (ha : acc < 128 ^ i) (hd : d < 128) (hi : i ≤ 9) (h9 : i = 9 → d ≤ 1) : d * 128 ^ i < 18446744073709551616 ∧ acc + d * 128 ^ i < 18446744073709551616 ∧ acc + d * 128 ^ i < 128 ^ (i + 1) := by
  have h3 : acc + d * 128 ^ i < 128 ^ (i + 1) := by
    rw [Nat.pow_succ, Nat.mul_comm (128 ^ i) 128]
    have : (d + 1) * 128 ^ i ≤ 128 * 128 ^ i := Nat.mul_le_mul_right _ (by omega)
    rw [Nat.add_mul] at this
    omega
  rcases Nat.lt_or_ge i 9 with h | h
  · have h1 : 128 ^ (i + 1) ≤ 128 ^ 9 := Nat.pow_le_pow_right (by decide) (by omega)
    rw [pow128] at h1
    omega
  · obtain rfl : i = 9 := by omega
    rw [pow128] at ha h3 ⊢
    have := h9 rfl
    omega
theorem pow7 (i : Nat) : (2 : Int) ^ (7 * i) = ((128 ^ i : Nat) : Int) := by
  rw [Int.natCast_pow, show ((128 : Nat) : Int) = 2 ^ 7 from rfl, ← Int.pow_mul]
def numRel (bs : List Int) (bad : Bool) (w : World) (g B : Nat) (n s : Value) (wr : World) : Prop :=
  ∃ (i acc : Nat) (z : Int) (left : List Int), n = .int .u64 acc ∧ s = .int .i64 z ∧ z = 7 * (i : Int) ∧ i ≤ 10 ∧ Hid (acc < 128 ^ i) ∧ acc < 18446744073709551616 ∧ Hid (NumNow bs i acc left) ∧ Hid (RdAt wr g B left bad) ∧ Hid (BytesOk left) ∧ Hid (w.grownBy wr (some g))

set_option maxRecDepth 100000 in
set_option maxHeartbeats 2000000 in
theorem Number_reads (g B : Nat) (bs : List Int) (bad : Bool) (w : World) (h : RdAt w g B bs bad) (hB : B ≤ g) (hbs : BytesOk bs) :
    Calls Tryz.prog 131 #[.pointer (some ⟨g, 0, none⟩)] w (NumPost w g B bs bad) := by
  have HR := Lib.hid h
  have HBs := Lib.hid hbs
  clear h hbs
  go_enter Tryz.func131, Tryz.ntmps131
  go_wp2_with fail
  go_loopw [3, 4] (numRel bs bad w g B) (fun _ s _ => (70 - intOf s).toNat)
  case atStart => exact ⟨0, 0, 0, bs, rfl, rfl, by omega, by omega, Lib.hid (by omega), by omega, Lib.hid (NumNow.start bs), HR, HBs, Lib.hid (World.grownBy.refl _ _)⟩
  case round =>
    obtain ⟨i, acc, z, left, rfl, rfl, hz, hi, HA, ha, HN, HRd, HBy, HG⟩ := hrel
    have Hz := Lib.hid hz
    have hz0 : 0 ≤ z := by omega
    have hz1 : z ≤ 70 := by omega
    clear hz
    by_cases h10 : i = 10
    · have hz2 : 70 ≤ z := by have := Hz.out; omega
      have Hi := Lib.hid h10
      clear h10
      obtain ⟨v, hblk, hv⟩ := HRd.out
      have f1 := hblk.frozen 1
      have r1 := hblk.cell 1
      have HK := Lib.hid hblk
      have HV := Lib.hid hv
      clear hblk hv
      go_wp2_with fail
      go_ret
      refine ⟨0, left, true, rfl, by omega, ⟨v, HK.out.set_ 1 _, HV.out.set hB _⟩, NumEnd.bad (NumNow.far (Hi.out ▸ HN.out)), only_trans HG.out (only_set _)⟩
    · have hz2 : z < 70 := by have := Hz.out; omega
      have hi9 : i ≤ 9 := by omega
      clear h10
      cases left with
      | nil =>
        have HNo := Lib.hid HN.out.nil
        go_wp2_with fail
        refine (Byte_any g B [] bad _ HRd.out hB HBy.out).mono ?_
        rintro e w1 ⟨rfl, hr1, hg1⟩
        have HR1 := Lib.hid hr1
        have HG1 := Lib.hid (only_trans HG.out hg1)
        clear hr1 hg1
        simp only [List.headD_nil]
        obtain ⟨v, hblk, hv⟩ := HR1.out
        have f1 := hblk.frozen 1
        have r1 := hblk.cell 1
        have HK := Lib.hid hblk
        have HV := Lib.hid hv
        clear hblk hv
        by_cases hi0 : i = 0
        · obtain rfl : z = 0 := by have := Hz.out; omega
          have ha0 : acc = 0 := by have := HA.out; rw [hi0] at this; omega
          subst ha0
          clear hi0
          have e127 : bits BinOp.and IntKind.i64 0 127 = 0 := by decide
          have hb8 : bitsS 0 ≤ 7 := bitsS_le _
          go_wp2_with fail
          refine (Len_any _ _ (by omega) (by omega)).mono ?_
          rintro e w' ⟨rfl, rfl⟩
          go_wp2_with fail
          go_ret
          refine ⟨0, _, _, ret_int ?_, by omega, ⟨v, HK.out, HV.out⟩, ?_, HG1.out⟩
          · decide
          · simp only [List.isEmpty_nil, Bool.or_true]
            exact NumEnd.bad HNo.out
        · have hz3 : 0 < z := by have := Hz.out; omega
          go_wp2_with fail
          go_ret
          refine ⟨0, _, true, rfl, by omega, ⟨v, HK.out.set_ 1 _, HV.out.set hB _⟩, NumEnd.bad HNo.out, only_trans HG1.out (only_set _)⟩
      | cons d l =>
        have hd := HBy.out d (by simp)
        go_wp2_with fail
        refine (Byte_any g B (d :: l) bad _ HRd.out hB HBy.out).mono ?_
        rintro e w1 ⟨rfl, hr1, hg1⟩
        have HR1 := Lib.hid hr1
        have HG1 := Lib.hid (only_trans HG.out hg1)
        clear hr1 hg1
        simp only [List.headD_cons]
        obtain ⟨v, hblk, hv⟩ := HR1.out
        have f1 := hblk.frozen 1
        have r1 := hblk.cell 1
        have HK := Lib.hid hblk
        have HV := Lib.hid hv
        clear hblk hv
        have e127 := and127 d hd
        have hm0 : 0 ≤ d % 128 := by omega
        have hm1 : d % 128 < 128 := by omega
        by_cases hzero : 0 < z ∧ d = 0
        · obtain ⟨hzp, rfl⟩ := hzero
          have HNo := Lib.hid (HN.out.zero (by have := Hz.out; omega))
          go_wp2_with fail
          go_ret
          refine ⟨0, _, true, rfl, by omega, ⟨v, HK.out.set_ 1 _, HV.out.set hB _⟩, NumEnd.bad HNo.out, only_trans HG1.out (only_set _)⟩
        · have Hze := Lib.hid hzero
          have hg0 : (0 < z → (d == 0) = false) := fun h => by simp; intro h'; exact hzero ⟨h, h'⟩
          clear hzero
          have hb7 := bitsS_le (d % 128).toNat
          have hb1 := bitsS_one (d % 128).toNat
          by_cases hbig : i = 9 ∧ 1 < d % 128
          · obtain ⟨hi', hd1⟩ := hbig
            have HNo := Lib.hid ((hi' ▸ HN.out : NumNow bs 9 acc (d :: l)).big (by omega))
            obtain rfl : z = 63 := by have := Hz.out; omega
            have hb2 : 1 < bitsS (d % 128).toNat := hb1.2 (by omega)
            have hg := hg0 (by omega)
            clear hb1 hi'
            go_wp2_with fail
            refine (Len_any _ _ (by omega) (by omega)).mono ?_
            rintro e w' ⟨rfl, rfl⟩
            go_wp2_with fail
            go_ret
            refine ⟨0, _, true, rfl, by omega, ⟨v, HK.out.set_ 1 _, HV.out.set hB _⟩, NumEnd.bad HNo.out, only_trans HG1.out (only_set _)⟩
          · have hfit := digit_fits HA.out (show (d % 128).toNat < 128 by omega) hi9 (fun h => by omega)
            have hb2 : z + bitsS (d % 128).toNat ≤ 64 := by
              have := Hz.out
              by_cases h9 : i = 9
              · have : ¬ 1 < bitsS (d % 128).toNat := fun h => hbig ⟨h9, by have := hb1.1 h; omega⟩
                omega
              · omega
            have hor := or_digit acc (d % 128).toNat i HA.out hfit.2.1
            have hsh : IntKind.u64.wrap (d % 128 * 2 ^ z.toNat) = (((d % 128).toNat * 128 ^ i : Nat) : Int) := by
              have e1 : z.toNat = 7 * i := by have := Hz.out; omega
              rw [e1, pow7, IntKind.wrap_u64, Int.natCast_mul, show ((d % 128).toNat : Int) = d % 128 by omega]
              have e2 := hfit.1
              have : ((d % 128).toNat * 128 ^ i : Nat) < (18446744073709551616 : Int) := by omega
              rw [Int.natCast_mul, show ((d % 128).toNat : Int) = d % 128 by omega] at this
              exact Int.emod_eq_of_lt (Int.mul_nonneg hm0 (by omega)) this
            have HF := Lib.hid hfit
            have HSh := Lib.hid hsh
            have HOr := Lib.hid hor
            have HBig := Lib.hid hbig
            clear hfit hsh hor hb1 hbig hb7
            by_cases h128 : d < 128
            · have hE : NumEnd bs bad (acc + (d % 128).toNat * 128 ^ i) l (bad || (d :: l).isEmpty) := by
                rw [show (d % 128).toNat = d.toNat by omega, show (bad || (d :: l).isEmpty) = bad by simp]
                exact NumEnd.ok (HN.out.last hi9 (fun h => Hze.out ⟨by have := Hz.out; omega, h.1⟩) (fun h => HBig.out ⟨h.1, by omega⟩) h128)
              have HE := Lib.hid hE
              clear hE
              by_cases hzp : 0 < z
              all_goals
                first | (have hg := hg0 hzp; clear hg0) | clear hg0
                go_wp2_with fail
                refine (Len_any _ _ (by omega) (by omega)).mono ?_
                rintro e w' ⟨rfl, rfl⟩
                go_wp2_with fail
                go_ret
                exact ⟨_, _, _, ret_int (by rw [HSh.out, HOr.out]), HF.out.2.1, ⟨v, HK.out, HV.out⟩, HE.out, HG1.out⟩
            · by_cases hzp : 0 < z
              all_goals
                first | (have hg := hg0 hzp; clear hg0) | clear hg0
                go_wp2_with fail
                refine (Len_any _ _ (by omega) (by omega)).mono ?_
                rintro e w' ⟨rfl, rfl⟩
                go_wp2_with fail
                go_roundw
                case rel =>
                  refine ⟨i + 1, _, z + 7, l, by rw [HSh.out, HOr.out], by go_num, by have := Hz.out; omega, by omega, Lib.hid HF.out.2.2, HF.out.2.1, Lib.hid ?_, Lib.hid ⟨v, by simpa using HK.out, HV.out⟩, Lib.hid (fun x hx => HBy.out x (by simp [hx])), HG1⟩
                  by_cases h9 : i = 9
                  · subst h9
                    exact HN.out.over (by omega)
                  · rw [show (d % 128).toNat = (d - 128).toNat by omega]
                    exact HN.out.more (by omega) (by omega)
                case measure => simp [intOf]; omega
end Go.Proofs.YtdldochhondifaaGreatDoor
